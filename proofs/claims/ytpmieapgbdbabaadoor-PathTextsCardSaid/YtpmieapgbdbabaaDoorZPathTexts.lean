/- The row of the law PathTexts, out of its walks and its plain law. -/
import Derived.Test.YtpmieapgbdbabaaDoorMPathTexts0
import Derived.Lib.SliceRun
import Derived.Test.YtpmieapgbdbabaaDoorMPathTexts1
import Derived.Test.YtpmieapgbdbabaaDoorMPathTexts2
import Derived.Test.YtpmieapgbdbabaaDoorRows
import Derived.Test.YtpmieapgbdbabaaDoorTie
import Derived.Test.YtpmieapgbdbabaaDoorCards
import Derived.WalkKit
import Derived.ProofKit
import Derived.OpenShut
import Derived.ShutString
import Derived.ChangeOld
import Derived.Below
import Derived.SizedLaws
import Derived.Lib.SmallJoins
import Derived.Deep.Slices
import Derived.Deep.Fields
import Derived.ChangeSame
section
/- slices.Clone of digipeaters, walked by hand: the same ones, in new memory. -/
set_option linter.unusedVariables false
set_option linter.unusedSimpArgs false
namespace Go.Proofs.YtpmieapgbdbabaaDoor.QAll
open Go.RowKit Go.Proofs.YtpmieapgbdbabaaDoorW.PrintWords Go.Proofs.YtpmieapgbdbabaaDoorW.PrintLast Go.Proofs.YtpmieapgbdbabaaDoorW.PrintMore
def path_Digi_59.f (l0 : List S93) : Option (List S93) := if l0.length ≤ 1000000 then some l0 else none
set_option maxHeartbeats 1000000 in
set_option maxRecDepth 100000 in
theorem path_Digi_59.calls (A0 : Option Addr) (c0 : Nat) (l0 : List (S93)) (r : List S93) (w : World) (hr0 : Kd.C k93 w A0 l0.length l0) (hc0 : l0.length ≤ c0) (h : path_Digi_59.f l0 = some r) :
    Calls Tryd.prog 59 #[.slice A0 l0.length c0] w fun e w' => ∃ v0_ : Value, e = .returned (v0_) ∧ Kd.R k93 93 w' w.heap.size (fun _ => True) v0_ r ∧ Below w.heap.size w w' := by
  unfold path_Digi_59.f at h
  split at h
  case isFalse => cases h
  rename_i hl
  obtain rfl := Option.some.inj h
  have HR := Aside0.mk hr0
  clear hr0 h
  have hu93 := Tryd.underlying93
  have hu23 := Tryd.underlying23
  have hA : ∀ a l c W, (binOp .eql 24 (.slice a l c) (.slice none 0 0)).run Tryd.prog W = .ok (.bool a.isNone) W := fun a l c W => Lib.run_eql_slice_nil W 24 93 a l c 0 0 Tryd.underlying24
  cases A0 with
  | none =>
    have hnil : l0 = [] := by
      cases l0 with
      | nil => rfl
      | cons x r => obtain ⟨ad, e, _⟩ := at_T93 HR.out 0 (Int.le_refl _) (by simp); cases e
    subst hnil
    go_enter Tryd.func59, Tryd.ntmps59
    go_wp2_with (fail)
    go_ret
    exact ⟨_, rfl, Kd.R_nil _ _ _ _ _, Below.refl _ _⟩
  | some ad =>
    have HB := Aside0.mk (Below.refl w.heap.size w)
    have HL := Aside0.mk hl
    go_enter Tryd.func59, Tryd.ntmps59
    go_wp2_with (first | ((with_reducible refine gate_dst (N := 5) rfl ?_); refine Kd.R_lit k93 _ 93 ?hg (N := 5) ?hd (xs := ([] : List (S93))) (inner := []) (ok := fun _ => True) (okp := fun _ => True) ?hr ?hp (fun _ hk => hk) trivial (Below.refl _ _) (Nat.le_refl _) (by simp) ?_; (case hd => rfl); (case hg => rfl); (case hr => first | (go_simp; done) | (go_simp; rfl)); (case hp => exact (Reps.none _ _)); intro v242 w5 ho6 hb hg_ hnew_; have n0_ := Aside0.mk (Kd.R_lower ho6 (below_size HB.out)); have n2_ := Aside0.mk (below_step HB.out hb); clear HB; have HO := n0_; have HB := n2_; clear n0_ n2_; clear hb hg_ hnew_ ho6) | ((with_reducible refine gate_builtin (b := .append) (xs := #[.tmp 5, .tmp 6]) rfl ?_); at_builtin; refine Kd.R_append_rows k93 (w0 := w) w.heap.size rfl (.tmp 5) (.tmp 6) 24 93 (.agg #[(.string ⟨#[]⟩), (.int .i64 0), (.bool false)]) 32 rfl Tryd.underlying24 info93 rfl (by decide) (by omega) v242 [] l0 _ _ _ (fun _ => True) (fun _ => False) rfl rfl ?aO ?aR (fun _ _ h => h) (fun _ h => h.elim) ?aF ?aB ?aS ?aL ?_; (case aR => exact Kd.C_below HR.out HB.out); (case aB => exact HB.out); (case aF => exact (fun _ _ => trivial)); (case aO => exact HO.out); (case aS => exact (below_size HB.out)); (case aL => have := HL.out; simp; omega); intro v245 w8 ho hb hg hat))
    go_ret
    exact ⟨_, rfl, ho, hb⟩
end Go.Proofs.YtpmieapgbdbabaaDoor.QAll
end

section
/- Walks, written by a program of this session (wip/pp): a Go function comes to what the Lean function beside it tells. -/
namespace Go.Proofs.YtpmieapgbdbabaaDoor.QAll
open Go.RowKit Go.Proofs.YtpmieapgbdbabaaDoorW.PrintWords Go.Proofs.YtpmieapgbdbabaaDoorW.PrintLast Go.Proofs.YtpmieapgbdbabaaDoorW.PrintMore
set_option linter.unusedVariables false
set_option linter.unusedSimpArgs false

def path_Sent.f (a0_0 : ByteArray) (a0_1 : Int) (a0_2 : ByteArray) (a0_3 : Int) (a0_4 : Bool) (a0_5 : Bool) (l0_6 : List (S93)) : Option (ByteArray × Int × ByteArray × Int × Bool × Bool × (List (S93)) × Bool) := (path_next.f a0_0 a0_1 a0_2 a0_3 a0_4 a0_5 l0_6).bind fun t107 => ((path_Digi_59.f l0_6).bind fun t108 => (if t107 < 0 then (some (a0_0, a0_1, a0_2, a0_3, a0_4, a0_5, t108, false)) else (if 0 ≤ t107 then (if t107 < (t108.length : Int) then (some (a0_0, a0_1, a0_2, a0_3, a0_4, a0_5, (t108.set (t107 : Int).toNat (⟨(⟨(rd_T93 t108 t107).f0.f0, (rd_T93 t108 t107).f0.f1⟩ : S23), true⟩ : S93)), true)) else (none)) else (none))))
set_option maxHeartbeats 8000000 in
set_option maxRecDepth 100000 in
theorem path_Sent.calls (a0_0 : ByteArray) (a0_1 : Int) (a0_2 : ByteArray) (a0_3 : Int) (a0_4 : Bool) (a0_5 : Bool) (A0_6 : Option Addr) (c0_6 : Nat) (l0_6 : List (S93)) (r1 : ByteArray) (r2 : Int) (r3 : ByteArray) (r4 : Int) (r5 : Bool) (r6 : Bool) (r7 : List (S93)) (r8 : Bool) (w : World) (hr0_6 : Kd.C k93 w A0_6 l0_6.length l0_6) (hc0_6 : l0_6.length ≤ c0_6) (h : path_Sent.f a0_0 a0_1 a0_2 a0_3 a0_4 a0_5 l0_6 = some (r1, r2, r3, r4, r5, r6, r7, r8)) :
  Calls Tryd.prog 20 #[.agg #[.string a0_0, .int .i64 a0_1, .string a0_2, .int .i64 a0_3, .bool a0_4, .bool a0_5, .slice A0_6 l0_6.length c0_6]] w fun e w' => ∃ v6_ : Value, e = .returned (.tuple #[.agg #[.string r1, .int .i64 r2, .string r3, .int .i64 r4, .bool r5, .bool r6, v6_], .bool r8]) ∧ Kd.R k93 93 w' w.heap.size (fun _ => True) v6_ r7 ∧ Below w.heap.size w w' := by
 have hu26 := Tryd.underlying26
 have HR0_6 := Aside0.mk hr0_6
 have HC0_6 := Aside0.mk hc0_6
 clear hr0_6 hc0_6
 have HB := Aside0.mk (Below.refl w.heap.size w)
 have H : ((path_next.f a0_0 a0_1 a0_2 a0_3 a0_4 a0_5 l0_6).bind fun t107 => ((path_Digi_59.f l0_6).bind fun t108 => (if t107 < 0 then (some (a0_0, a0_1, a0_2, a0_3, a0_4, a0_5, t108, false)) else (if 0 ≤ t107 then (if t107 < (t108.length : Int) then (some (a0_0, a0_1, a0_2, a0_3, a0_4, a0_5, (t108.set (t107 : Int).toNat (⟨(⟨(rd_T93 t108 t107).f0.f0, (rd_T93 t108 t107).f0.f1⟩ : S23), true⟩ : S93)), true)) else (none)) else (none))))) = some (r1, r2, r3, r4, r5, r6, r7, r8) := h
 clear h
 replace H := Option.bind_eq_some_iff.mp H
 obtain ⟨t107, A20, H⟩ := H
 replace H : ((path_Digi_59.f l0_6).bind fun t108 => (if t107 < 0 then (some (a0_0, a0_1, a0_2, a0_3, a0_4, a0_5, t108, false)) else (if 0 ≤ t107 then (if t107 < (t108.length : Int) then (some (a0_0, a0_1, a0_2, a0_3, a0_4, a0_5, (t108.set (t107 : Int).toNat (⟨(⟨(rd_T93 t108 t107).f0.f0, (rd_T93 t108 t107).f0.f1⟩ : S23), true⟩ : S93)), true)) else (none)) else (none)))) = some (r1, r2, r3, r4, r5, r6, r7, r8) := H
 have A2 := Aside0.mk A20
 clear A20
 replace H := Option.bind_eq_some_iff.mp H
 obtain ⟨t108, A30, H⟩ := H
 replace H : (if t107 < 0 then (some (a0_0, a0_1, a0_2, a0_3, a0_4, a0_5, t108, false)) else (if 0 ≤ t107 then (if t107 < (t108.length : Int) then (some (a0_0, a0_1, a0_2, a0_3, a0_4, a0_5, (t108.set (t107 : Int).toNat (⟨(⟨(rd_T93 t108 t107).f0.f0, (rd_T93 t108 t107).f0.f1⟩ : S23), true⟩ : S93)), true)) else (none)) else (none))) = some (r1, r2, r3, r4, r5, r6, r7, r8) := H
 have A3 := Aside0.mk A30
 clear A30
 by_cases c4 : t107 < 0
 ·rw [if_pos c4] at H
  have c4b0 : decide (t107 < 0) = true := decide_eq_true c4
  clear c4
  simp only [Option.some.injEq, Prod.mk.injEq] at H
  obtain ⟨rfl, rfl, rfl, rfl, rfl, rfl, rfl, rfl⟩ := H
  go_enter Tryd.func20, Tryd.ntmps20
  go_wp2_with (first | ((with_reducible refine gate_dst (N := 1) rfl ?_); refine box_event ?hg (N := 1) ?hd (cs := #[.string a0_0, .int .i64 a0_1, .string a0_2, .int .i64 a0_3, .bool a0_4, .bool a0_5, .slice A0_6 l0_6.length c0_6]) (t := 26) ?hr ?_; (case hd => rfl); (case hg => rfl); (case hr => first | (go_simp; done) | (go_simp; rfl)); intro gb105 hg w5 hbox hb; have n0_ := Aside0.mk (below_step (by repeat (first | (with_reducible first | exact HB.out | apply below_alloc | apply pw_below_drewN | apply below_drew1) | exact HB.out)) hb); have n1_ := Aside0.mk (hbox); have n2_ := Aside0.mk ((by rw [hg]; exact (below_size (by repeat (first | (with_reducible first | exact HB.out | apply below_alloc | apply pw_below_drewN | apply below_drew1) | exact HB.out))) : w.heap.size ≤ gb105)); have n3_ := Aside0.mk ((by rw [hg]; exact (below_size (by repeat (first | (with_reducible first | exact HB.out | apply below_alloc | apply pw_below_drewN | apply below_drew1) | exact HB.out))) : w.heap.size ≤ gb105)); clear HB; have HB := n0_; have BK105 := n1_; have GW105 := n2_; have GE105 := n3_; clear n0_ n1_ n2_ n3_; clear hb hbox hg) | ((with_reducible refine gate_dst (N := 2) rfl ?_); refine box_event ?hg (N := 2) ?hd (cs := #[.string (⟨#[]⟩ : ByteArray), .int .i64 0, .string (⟨#[]⟩ : ByteArray), .int .i64 0, .bool false, .bool false, .slice none 0 0]) (t := 26) ?hr ?_; (case hd => rfl); (case hg => rfl); (case hr => first | (go_simp; done) | (go_simp; rfl)); intro gb106 hg w6 hbox hb; have n0_ := Aside0.mk (blk_below (g := gb105) (o := .cells #[.string a0_0, .int .i64 a0_1, .string a0_2, .int .i64 a0_3, .bool a0_4, .bool a0_5, .slice A0_6 l0_6.length c0_6] 26 (0, 0)) (by (with_reducible repeat (first | refine blk_drewN ?_ _ | refine blk_drew ?_ | refine blk_alloc ?_ _)); exact BK105.out) hb); have n1_ := Aside0.mk (below_step (by repeat (first | (with_reducible first | exact HB.out | apply below_alloc | apply pw_below_drewN | apply below_drew1 | refine below_set ?_ GE105.out) | exact HB.out)) hb); have n2_ := Aside0.mk (hbox); have n3_ := Aside0.mk ((by rw [hg]; exact (below_size (by repeat (first | (with_reducible first | exact HB.out | apply below_alloc | apply pw_below_drewN | apply below_drew1 | refine below_set ?_ GE105.out) | exact HB.out))) : w.heap.size ≤ gb106)); have n4_ := Aside0.mk ((by rw [hg]; exact (below_size (by repeat (first | (with_reducible first | exact HB.out | apply below_alloc | apply pw_below_drewN | apply below_drew1 | refine below_set ?_ GE105.out) | exact HB.out))) : w.heap.size ≤ gb106)); have n5_ := Aside0.mk ((by rw [hg]; exact Nat.ne_of_lt (blk_lt (g := gb105) (o := .cells #[.string a0_0, .int .i64 a0_1, .string a0_2, .int .i64 a0_3, .bool a0_4, .bool a0_5, .slice A0_6 l0_6.length c0_6] 26 (0, 0)) (by (with_reducible repeat (first | refine blk_drewN ?_ _ | refine blk_drew ?_ | refine blk_alloc ?_ _)); exact BK105.out)) : gb105 ≠ gb106)); have n6_ := Aside0.mk ((by rw [hg]; exact Nat.ne_of_gt (blk_lt (g := gb105) (o := .cells #[.string a0_0, .int .i64 a0_1, .string a0_2, .int .i64 a0_3, .bool a0_4, .bool a0_5, .slice A0_6 l0_6.length c0_6] 26 (0, 0)) (by (with_reducible repeat (first | refine blk_drewN ?_ _ | refine blk_drew ?_ | refine blk_alloc ?_ _)); exact BK105.out)) : gb106 ≠ gb105)); clear BK105; clear HB; have BK105 := n0_; have HB := n1_; have BK106 := n2_; have GW106 := n3_; have GE106 := n4_; have NB105_106 := n5_; have NB106_105 := n6_; clear n0_ n1_ n2_ n3_ n4_ n5_ n6_; clear hb hbox hg; have hnb7 := NB105_106.out; have hnc7 := NB106_105.out; have hcz8_0 : w6.cell? ⟨gb105, 0, none⟩ = some (.string a0_0) := (blk_cell BK105.out 0).trans rfl; have hcz8_1 : w6.cell? ⟨gb105, 1, none⟩ = some (.int .i64 a0_1) := (blk_cell BK105.out 1).trans rfl; have hcz8_2 : w6.cell? ⟨gb105, 2, none⟩ = some (.string a0_2) := (blk_cell BK105.out 2).trans rfl; have hcz8_3 : w6.cell? ⟨gb105, 3, none⟩ = some (.int .i64 a0_3) := (blk_cell BK105.out 3).trans rfl; have hcz8_4 : w6.cell? ⟨gb105, 4, none⟩ = some (.bool a0_4) := (blk_cell BK105.out 4).trans rfl; have hcz8_5 : w6.cell? ⟨gb105, 5, none⟩ = some (.bool a0_5) := (blk_cell BK105.out 5).trans rfl; have hcz8_6 : w6.cell? ⟨gb105, 6, none⟩ = some (.slice A0_6 l0_6.length c0_6) := (blk_cell BK105.out 6).trans rfl; have hfz8_0 := blk_frozen BK105.out 0; have hfz8_1 := blk_frozen BK105.out 1; have hfz8_2 := blk_frozen BK105.out 2; have hfz8_3 := blk_frozen BK105.out 3; have hfz8_4 := blk_frozen BK105.out 4; have hfz8_5 := blk_frozen BK105.out 5; have hfz8_6 := blk_frozen BK105.out 6) | ((with_reducible refine gate_callee (f := 58) rfl ?_); refine goesL_ (some 6) rfl rfl Tryd.func58 (by kernel_rfl) rfl #[.agg #[.string a0_0, .int .i64 a0_1, .string a0_2, .int .i64 a0_3, .bool a0_4, .bool a0_5, .slice A0_6 l0_6.length c0_6]] rfl (by (try simp only [List.map_toArray, List.map_cons, List.map_nil]); first | done | rfl | (simp only [List.length_drop, List.length_take]; rfl)) ?_; (with_reducible refine (path_next.calls a0_0 a0_1 a0_2 a0_3 a0_4 a0_5 _ _ l0_6 t107 _ ?side1 ?side2 A2.out).mono ?_); (case side1 => repeat (first | exact (Kd.C_below HR0_6.out HB.out) | (with_reducible refine Kd.C_alloc ?_ _) | (with_reducible refine Kd.C_drewN ?_ _) | (with_reducible refine Kd.C_drew ?_))); (case side2 => exact HC0_6.out); rintro e w9 ⟨rfl, hb⟩; refine ⟨_, rfl, ?_⟩; have n0_ := Aside0.mk (blk_below (g := gb105) (o := .cells #[.string a0_0, .int .i64 a0_1, .string a0_2, .int .i64 a0_3, .bool a0_4, .bool a0_5, .slice A0_6 l0_6.length c0_6] 26 (0, 0)) (by (with_reducible repeat (first | refine blk_drewN ?_ _ | refine blk_drew ?_ | refine blk_alloc ?_ _)); exact BK105.out) hb); have n1_ := Aside0.mk (blk_below (g := gb106) (o := .cells #[.string (⟨#[]⟩ : ByteArray), .int .i64 0, .string (⟨#[]⟩ : ByteArray), .int .i64 0, .bool false, .bool false, .slice none 0 0] 26 (0, 0)) (by (with_reducible repeat (first | refine blk_drewN ?_ _ | refine blk_drew ?_ | refine blk_alloc ?_ _)); exact BK106.out) hb); have n2_ := Aside0.mk (below_step (by repeat (first | (with_reducible first | exact HB.out | apply below_alloc | apply pw_below_drewN | apply below_drew1 | refine below_set ?_ GE105.out | refine below_set ?_ GE106.out) | exact HB.out)) hb); clear BK105; clear BK106; clear HB; have BK105 := n0_; have BK106 := n1_; have HB := n2_; clear n0_ n1_ n2_; (try clear hb); (try clear hb2); (try clear hk); (try clear hi); have hcz10_0 : w9.cell? ⟨gb105, 0, none⟩ = some (.string a0_0) := (blk_cell BK105.out 0).trans rfl; have hcz10_1 : w9.cell? ⟨gb105, 1, none⟩ = some (.int .i64 a0_1) := (blk_cell BK105.out 1).trans rfl; have hcz10_2 : w9.cell? ⟨gb105, 2, none⟩ = some (.string a0_2) := (blk_cell BK105.out 2).trans rfl; have hcz10_3 : w9.cell? ⟨gb105, 3, none⟩ = some (.int .i64 a0_3) := (blk_cell BK105.out 3).trans rfl; have hcz10_4 : w9.cell? ⟨gb105, 4, none⟩ = some (.bool a0_4) := (blk_cell BK105.out 4).trans rfl; have hcz10_5 : w9.cell? ⟨gb105, 5, none⟩ = some (.bool a0_5) := (blk_cell BK105.out 5).trans rfl; have hcz10_6 : w9.cell? ⟨gb105, 6, none⟩ = some (.slice A0_6 l0_6.length c0_6) := (blk_cell BK105.out 6).trans rfl; have hfz10_0 := blk_frozen BK105.out 0; have hfz10_1 := blk_frozen BK105.out 1; have hfz10_2 := blk_frozen BK105.out 2; have hfz10_3 := blk_frozen BK105.out 3; have hfz10_4 := blk_frozen BK105.out 4; have hfz10_5 := blk_frozen BK105.out 5; have hfz10_6 := blk_frozen BK105.out 6) | ((with_reducible refine gate_callee (f := 59) rfl ?_); refine goesL_ (some 9) rfl rfl Tryd.func59 (by kernel_rfl) rfl #[.slice A0_6 l0_6.length c0_6] rfl (by (try simp only [List.map_toArray, List.map_cons, List.map_nil]); first | done | rfl | (simp only [List.length_drop, List.length_take]; rfl)) ?_; (with_reducible refine (path_Digi_59.calls _ _ l0_6 t108 _ ?side1 ?side2 A3.out).mono ?_); (case side1 => repeat (first | exact (Kd.C_below HR0_6.out HB.out) | (with_reducible refine Kd.C_alloc ?_ _) | (with_reducible refine Kd.C_drewN ?_ _) | (with_reducible refine Kd.C_drew ?_))); (case side2 => exact HC0_6.out); rintro e w11 ⟨v109, rfl, ho0, hb⟩; refine ⟨_, rfl, ?_⟩; have n0_ := Aside0.mk (Kd.R_lower ho0 (below_size (by repeat (first | (with_reducible first | exact HB.out | apply below_alloc | apply pw_below_drewN | apply below_drew1 | refine below_set ?_ GE105.out | refine below_set ?_ GE106.out) | exact HB.out)))); have n1_ := Aside0.mk (blk_below (g := gb105) (o := .cells #[.string a0_0, .int .i64 a0_1, .string a0_2, .int .i64 a0_3, .bool a0_4, .bool a0_5, .slice A0_6 l0_6.length c0_6] 26 (0, 0)) (by (with_reducible repeat (first | refine blk_drewN ?_ _ | refine blk_drew ?_ | refine blk_alloc ?_ _)); exact BK105.out) hb); have n2_ := Aside0.mk (blk_below (g := gb106) (o := .cells #[.string (⟨#[]⟩ : ByteArray), .int .i64 0, .string (⟨#[]⟩ : ByteArray), .int .i64 0, .bool false, .bool false, .slice none 0 0] 26 (0, 0)) (by (with_reducible repeat (first | refine blk_drewN ?_ _ | refine blk_drew ?_ | refine blk_alloc ?_ _)); exact BK106.out) hb); have n3_ := Aside0.mk (below_step (by repeat (first | (with_reducible first | exact HB.out | apply below_alloc | apply pw_below_drewN | apply below_drew1 | refine below_set ?_ GE105.out | refine below_set ?_ GE106.out) | exact HB.out)) hb); clear BK105; clear BK106; clear HB; have HO110 := n0_; have BK105 := n1_; have BK106 := n2_; have HB := n3_; clear n0_ n1_ n2_ n3_; (try clear hb); (try clear hb2); (try clear hk); (try clear hi); (try clear ho0); obtain ⟨Ao12, co12, eo12⟩ := Kd.R_slice HO110.out; subst eo12; have hcz13_0 : w11.cell? ⟨gb105, 0, none⟩ = some (.string a0_0) := (blk_cell BK105.out 0).trans rfl; have hcz13_1 : w11.cell? ⟨gb105, 1, none⟩ = some (.int .i64 a0_1) := (blk_cell BK105.out 1).trans rfl; have hcz13_2 : w11.cell? ⟨gb105, 2, none⟩ = some (.string a0_2) := (blk_cell BK105.out 2).trans rfl; have hcz13_3 : w11.cell? ⟨gb105, 3, none⟩ = some (.int .i64 a0_3) := (blk_cell BK105.out 3).trans rfl; have hcz13_4 : w11.cell? ⟨gb105, 4, none⟩ = some (.bool a0_4) := (blk_cell BK105.out 4).trans rfl; have hcz13_5 : w11.cell? ⟨gb105, 5, none⟩ = some (.bool a0_5) := (blk_cell BK105.out 5).trans rfl; have hcz13_6 : w11.cell? ⟨gb105, 6, none⟩ = some (.slice A0_6 l0_6.length c0_6) := (blk_cell BK105.out 6).trans rfl; have hfz13_0 := blk_frozen BK105.out 0; have hfz13_1 := blk_frozen BK105.out 1; have hfz13_2 := blk_frozen BK105.out 2; have hfz13_3 := blk_frozen BK105.out 3; have hfz13_4 := blk_frozen BK105.out 4; have hfz13_5 := blk_frozen BK105.out 5; have hfz13_6 := blk_frozen BK105.out 6; have hcz14_0 : w11.cell? ⟨gb106, 0, none⟩ = some (.string (⟨#[]⟩ : ByteArray)) := (blk_cell BK106.out 0).trans rfl; have hcz14_1 : w11.cell? ⟨gb106, 1, none⟩ = some (.int .i64 0) := (blk_cell BK106.out 1).trans rfl; have hcz14_2 : w11.cell? ⟨gb106, 2, none⟩ = some (.string (⟨#[]⟩ : ByteArray)) := (blk_cell BK106.out 2).trans rfl; have hcz14_3 : w11.cell? ⟨gb106, 3, none⟩ = some (.int .i64 0) := (blk_cell BK106.out 3).trans rfl; have hcz14_4 : w11.cell? ⟨gb106, 4, none⟩ = some (.bool false) := (blk_cell BK106.out 4).trans rfl; have hcz14_5 : w11.cell? ⟨gb106, 5, none⟩ = some (.bool false) := (blk_cell BK106.out 5).trans rfl; have hcz14_6 : w11.cell? ⟨gb106, 6, none⟩ = some (.slice none 0 0) := (blk_cell BK106.out 6).trans rfl; have hfz14_0 := blk_frozen BK106.out 0; have hfz14_1 := blk_frozen BK106.out 1; have hfz14_2 := blk_frozen BK106.out 2; have hfz14_3 := blk_frozen BK106.out 3; have hfz14_4 := blk_frozen BK106.out 4; have hfz14_5 := blk_frozen BK106.out 5; have hfz14_6 := blk_frozen BK106.out 6))
  refine bodyPost_ret (results_ct rfl _ _ gb106 26 #[.string a0_0, .int .i64 a0_1, .string a0_2, .int .i64 a0_3, .bool a0_4, .bool a0_5, .slice Ao12 t108.length co12] (0, 0) _ rfl (by (with_reducible repeat (first | refine blk_drewN ?_ _ | refine blk_drew ?_ | refine blk_alloc ?_ _)); refine blk_put (cs := #[.string a0_0, .int .i64 a0_1, .string a0_2, .int .i64 a0_3, .bool a0_4, .bool a0_5, .slice none 0 0]) ?_ 6 _ rfl; (with_reducible repeat (first | refine blk_drewN ?_ _ | refine blk_drew ?_ | refine blk_alloc ?_ _)); refine blk_put (cs := #[.string a0_0, .int .i64 a0_1, .string a0_2, .int .i64 a0_3, .bool a0_4, .bool false, .slice none 0 0]) ?_ 5 _ rfl; (with_reducible repeat (first | refine blk_drewN ?_ _ | refine blk_drew ?_ | refine blk_alloc ?_ _)); refine blk_put (cs := #[.string a0_0, .int .i64 a0_1, .string a0_2, .int .i64 a0_3, .bool false, .bool false, .slice none 0 0]) ?_ 4 _ rfl; (with_reducible repeat (first | refine blk_drewN ?_ _ | refine blk_drew ?_ | refine blk_alloc ?_ _)); refine blk_put (cs := #[.string a0_0, .int .i64 a0_1, .string a0_2, .int .i64 0, .bool false, .bool false, .slice none 0 0]) ?_ 3 _ rfl; (with_reducible repeat (first | refine blk_drewN ?_ _ | refine blk_drew ?_ | refine blk_alloc ?_ _)); refine blk_put (cs := #[.string a0_0, .int .i64 a0_1, .string (⟨#[]⟩ : ByteArray), .int .i64 0, .bool false, .bool false, .slice none 0 0]) ?_ 2 _ rfl; (with_reducible repeat (first | refine blk_drewN ?_ _ | refine blk_drew ?_ | refine blk_alloc ?_ _)); refine blk_put (cs := #[.string a0_0, .int .i64 0, .string (⟨#[]⟩ : ByteArray), .int .i64 0, .bool false, .bool false, .slice none 0 0]) ?_ 1 _ rfl; (with_reducible repeat (first | refine blk_drewN ?_ _ | refine blk_drew ?_ | refine blk_alloc ?_ _)); refine blk_put (cs := #[.string (⟨#[]⟩ : ByteArray), .int .i64 0, .string (⟨#[]⟩ : ByteArray), .int .i64 0, .bool false, .bool false, .slice none 0 0]) ?_ 0 _ rfl; (with_reducible repeat (first | refine blk_drewN ?_ _ | refine blk_drew ?_ | refine blk_alloc ?_ _)); refine blk_far ?_ NB106_105.out _; (with_reducible repeat (first | refine blk_drewN ?_ _ | refine blk_drew ?_ | refine blk_alloc ?_ _)); exact BK106.out) Tryd.underlying26 rfl (by kernel_rfl)) rfl ?_
  exact ⟨_, by first | rfl | (simp [errW_none, errW_some] <;> rfl) | (simp [*, errW_none, errW_some] <;> rfl), by (with_reducible repeat (first | apply Kd.R_alloc | apply Kd.R_drewN | apply Kd.R_drew)); exact Kd.R_mono (Kd.R_far (p := ⟨gb106, 6, none⟩) (Kd.R_far (p := ⟨gb106, 5, none⟩) (Kd.R_far (p := ⟨gb106, 4, none⟩) (Kd.R_far (p := ⟨gb106, 3, none⟩) (Kd.R_far (p := ⟨gb106, 2, none⟩) (Kd.R_far (p := ⟨gb106, 1, none⟩) (Kd.R_far (p := ⟨gb106, 0, none⟩) (Kd.R_far (p := ⟨gb105, 6, none⟩) (Kd.R_types (Kd.R_types HO110.out BK105.out (by decide)) BK106.out (by decide)) (fun _ hk => hk.1.2) (.slice Ao12 t108.length co12)) (fun _ hk => hk.2) (.string a0_0)) (fun _ hk => hk.2) (.int .i64 a0_1)) (fun _ hk => hk.2) (.string a0_2)) (fun _ hk => hk.2) (.int .i64 a0_3)) (fun _ hk => hk.2) (.bool a0_4)) (fun _ hk => hk.2) (.bool a0_5)) (fun _ hk => hk.2) (.slice Ao12 t108.length co12)) (fun _ hk => trivial), by repeat (first | (with_reducible first | exact HB.out | apply below_alloc | apply pw_below_drewN | apply below_drew1 | refine below_set ?_ GE105.out | refine below_set ?_ GE106.out) | exact HB.out)⟩
 ·rw [if_neg c4] at H
  have c4b0 : decide (t107 < 0) = false := decide_eq_false c4
  clear c4
  by_cases c15 : 0 ≤ t107
  ·rw [if_pos c15] at H
   have c15b0 : decide (0 ≤ t107) = true := decide_eq_true c15
   clear c15
   by_cases c16 : t107 < (t108.length : Int)
   ·rw [if_pos c16] at H
    have c16b0 : decide (t107 < (t108.length : Int)) = true := decide_eq_true c16
    clear c16
    obtain ⟨y111, hy111⟩ : ∃ y_ : List (S93), y_ = (t108.set (t107 : Int).toNat (⟨(⟨(rd_T93 t108 t107).f0.f0, (rd_T93 t108 t107).f0.f1⟩ : S23), true⟩ : S93)) := ⟨_, rfl⟩
    replace H : (some (a0_0, a0_1, a0_2, a0_3, a0_4, a0_5, y111, true)) = some (r1, r2, r3, r4, r5, r6, r7, r8) := by first | (rw [hy111]; with_reducible exact H) | (have H2_ := (Option.bind_some _ _).symm.trans H; rw [hy111]; with_reducible exact H2_) | (have H2_ := (Option.bind_some _ _).symm.trans H; with_reducible exact H2_) | with_reducible exact H | (rw [hy111]; exact H) | exact H
    have Ny111 := Aside0.mk hy111
    clear hy111
    simp only [Option.some.injEq, Prod.mk.injEq] at H
    obtain ⟨rfl, rfl, rfl, rfl, rfl, rfl, rfl, rfl⟩ := H
    go_enter Tryd.func20, Tryd.ntmps20
    go_wp2_with (first | ((with_reducible refine gate_dst (N := 1) rfl ?_); refine box_event ?hg (N := 1) ?hd (cs := #[.string a0_0, .int .i64 a0_1, .string a0_2, .int .i64 a0_3, .bool a0_4, .bool a0_5, .slice A0_6 l0_6.length c0_6]) (t := 26) ?hr ?_; (case hd => rfl); (case hg => rfl); (case hr => first | (go_simp; done) | (go_simp; rfl)); intro gb105 hg w18 hbox hb; have n0_ := Aside0.mk (below_step (by repeat (first | (with_reducible first | exact HB.out | apply below_alloc | apply pw_below_drewN | apply below_drew1) | exact HB.out)) hb); have n1_ := Aside0.mk (hbox); have n2_ := Aside0.mk ((by rw [hg]; exact (below_size (by repeat (first | (with_reducible first | exact HB.out | apply below_alloc | apply pw_below_drewN | apply below_drew1) | exact HB.out))) : w.heap.size ≤ gb105)); have n3_ := Aside0.mk ((by rw [hg]; exact (below_size (by repeat (first | (with_reducible first | exact HB.out | apply below_alloc | apply pw_below_drewN | apply below_drew1) | exact HB.out))) : w.heap.size ≤ gb105)); clear HB; have HB := n0_; have BK105 := n1_; have GW105 := n2_; have GE105 := n3_; clear n0_ n1_ n2_ n3_; clear hb hbox hg) | ((with_reducible refine gate_dst (N := 2) rfl ?_); refine box_event ?hg (N := 2) ?hd (cs := #[.string (⟨#[]⟩ : ByteArray), .int .i64 0, .string (⟨#[]⟩ : ByteArray), .int .i64 0, .bool false, .bool false, .slice none 0 0]) (t := 26) ?hr ?_; (case hd => rfl); (case hg => rfl); (case hr => first | (go_simp; done) | (go_simp; rfl)); intro gb106 hg w19 hbox hb; have n0_ := Aside0.mk (blk_below (g := gb105) (o := .cells #[.string a0_0, .int .i64 a0_1, .string a0_2, .int .i64 a0_3, .bool a0_4, .bool a0_5, .slice A0_6 l0_6.length c0_6] 26 (0, 0)) (by (with_reducible repeat (first | refine blk_drewN ?_ _ | refine blk_drew ?_ | refine blk_alloc ?_ _)); exact BK105.out) hb); have n1_ := Aside0.mk (below_step (by repeat (first | (with_reducible first | exact HB.out | apply below_alloc | apply pw_below_drewN | apply below_drew1 | refine below_set ?_ GE105.out) | exact HB.out)) hb); have n2_ := Aside0.mk (hbox); have n3_ := Aside0.mk ((by rw [hg]; exact (below_size (by repeat (first | (with_reducible first | exact HB.out | apply below_alloc | apply pw_below_drewN | apply below_drew1 | refine below_set ?_ GE105.out) | exact HB.out))) : w.heap.size ≤ gb106)); have n4_ := Aside0.mk ((by rw [hg]; exact (below_size (by repeat (first | (with_reducible first | exact HB.out | apply below_alloc | apply pw_below_drewN | apply below_drew1 | refine below_set ?_ GE105.out) | exact HB.out))) : w.heap.size ≤ gb106)); have n5_ := Aside0.mk ((by rw [hg]; exact Nat.ne_of_lt (blk_lt (g := gb105) (o := .cells #[.string a0_0, .int .i64 a0_1, .string a0_2, .int .i64 a0_3, .bool a0_4, .bool a0_5, .slice A0_6 l0_6.length c0_6] 26 (0, 0)) (by (with_reducible repeat (first | refine blk_drewN ?_ _ | refine blk_drew ?_ | refine blk_alloc ?_ _)); exact BK105.out)) : gb105 ≠ gb106)); have n6_ := Aside0.mk ((by rw [hg]; exact Nat.ne_of_gt (blk_lt (g := gb105) (o := .cells #[.string a0_0, .int .i64 a0_1, .string a0_2, .int .i64 a0_3, .bool a0_4, .bool a0_5, .slice A0_6 l0_6.length c0_6] 26 (0, 0)) (by (with_reducible repeat (first | refine blk_drewN ?_ _ | refine blk_drew ?_ | refine blk_alloc ?_ _)); exact BK105.out)) : gb106 ≠ gb105)); clear BK105; clear HB; have BK105 := n0_; have HB := n1_; have BK106 := n2_; have GW106 := n3_; have GE106 := n4_; have NB105_106 := n5_; have NB106_105 := n6_; clear n0_ n1_ n2_ n3_ n4_ n5_ n6_; clear hb hbox hg; have hnb20 := NB105_106.out; have hnc20 := NB106_105.out; have hcz21_0 : w19.cell? ⟨gb105, 0, none⟩ = some (.string a0_0) := (blk_cell BK105.out 0).trans rfl; have hcz21_1 : w19.cell? ⟨gb105, 1, none⟩ = some (.int .i64 a0_1) := (blk_cell BK105.out 1).trans rfl; have hcz21_2 : w19.cell? ⟨gb105, 2, none⟩ = some (.string a0_2) := (blk_cell BK105.out 2).trans rfl; have hcz21_3 : w19.cell? ⟨gb105, 3, none⟩ = some (.int .i64 a0_3) := (blk_cell BK105.out 3).trans rfl; have hcz21_4 : w19.cell? ⟨gb105, 4, none⟩ = some (.bool a0_4) := (blk_cell BK105.out 4).trans rfl; have hcz21_5 : w19.cell? ⟨gb105, 5, none⟩ = some (.bool a0_5) := (blk_cell BK105.out 5).trans rfl; have hcz21_6 : w19.cell? ⟨gb105, 6, none⟩ = some (.slice A0_6 l0_6.length c0_6) := (blk_cell BK105.out 6).trans rfl; have hfz21_0 := blk_frozen BK105.out 0; have hfz21_1 := blk_frozen BK105.out 1; have hfz21_2 := blk_frozen BK105.out 2; have hfz21_3 := blk_frozen BK105.out 3; have hfz21_4 := blk_frozen BK105.out 4; have hfz21_5 := blk_frozen BK105.out 5; have hfz21_6 := blk_frozen BK105.out 6) | ((with_reducible refine gate_callee (f := 58) rfl ?_); refine goesL_ (some 6) rfl rfl Tryd.func58 (by kernel_rfl) rfl #[.agg #[.string a0_0, .int .i64 a0_1, .string a0_2, .int .i64 a0_3, .bool a0_4, .bool a0_5, .slice A0_6 l0_6.length c0_6]] rfl (by (try simp only [List.map_toArray, List.map_cons, List.map_nil]); first | done | rfl | (simp only [List.length_drop, List.length_take]; rfl)) ?_; (with_reducible refine (path_next.calls a0_0 a0_1 a0_2 a0_3 a0_4 a0_5 _ _ l0_6 t107 _ ?side1 ?side2 A2.out).mono ?_); (case side1 => repeat (first | exact (Kd.C_below HR0_6.out HB.out) | (with_reducible refine Kd.C_alloc ?_ _) | (with_reducible refine Kd.C_drewN ?_ _) | (with_reducible refine Kd.C_drew ?_))); (case side2 => exact HC0_6.out); rintro e w22 ⟨rfl, hb⟩; refine ⟨_, rfl, ?_⟩; have n0_ := Aside0.mk (blk_below (g := gb105) (o := .cells #[.string a0_0, .int .i64 a0_1, .string a0_2, .int .i64 a0_3, .bool a0_4, .bool a0_5, .slice A0_6 l0_6.length c0_6] 26 (0, 0)) (by (with_reducible repeat (first | refine blk_drewN ?_ _ | refine blk_drew ?_ | refine blk_alloc ?_ _)); exact BK105.out) hb); have n1_ := Aside0.mk (blk_below (g := gb106) (o := .cells #[.string (⟨#[]⟩ : ByteArray), .int .i64 0, .string (⟨#[]⟩ : ByteArray), .int .i64 0, .bool false, .bool false, .slice none 0 0] 26 (0, 0)) (by (with_reducible repeat (first | refine blk_drewN ?_ _ | refine blk_drew ?_ | refine blk_alloc ?_ _)); exact BK106.out) hb); have n2_ := Aside0.mk (below_step (by repeat (first | (with_reducible first | exact HB.out | apply below_alloc | apply pw_below_drewN | apply below_drew1 | refine below_set ?_ GE105.out | refine below_set ?_ GE106.out) | exact HB.out)) hb); clear BK105; clear BK106; clear HB; have BK105 := n0_; have BK106 := n1_; have HB := n2_; clear n0_ n1_ n2_; (try clear hb); (try clear hb2); (try clear hk); (try clear hi); have hcz23_0 : w22.cell? ⟨gb105, 0, none⟩ = some (.string a0_0) := (blk_cell BK105.out 0).trans rfl; have hcz23_1 : w22.cell? ⟨gb105, 1, none⟩ = some (.int .i64 a0_1) := (blk_cell BK105.out 1).trans rfl; have hcz23_2 : w22.cell? ⟨gb105, 2, none⟩ = some (.string a0_2) := (blk_cell BK105.out 2).trans rfl; have hcz23_3 : w22.cell? ⟨gb105, 3, none⟩ = some (.int .i64 a0_3) := (blk_cell BK105.out 3).trans rfl; have hcz23_4 : w22.cell? ⟨gb105, 4, none⟩ = some (.bool a0_4) := (blk_cell BK105.out 4).trans rfl; have hcz23_5 : w22.cell? ⟨gb105, 5, none⟩ = some (.bool a0_5) := (blk_cell BK105.out 5).trans rfl; have hcz23_6 : w22.cell? ⟨gb105, 6, none⟩ = some (.slice A0_6 l0_6.length c0_6) := (blk_cell BK105.out 6).trans rfl; have hfz23_0 := blk_frozen BK105.out 0; have hfz23_1 := blk_frozen BK105.out 1; have hfz23_2 := blk_frozen BK105.out 2; have hfz23_3 := blk_frozen BK105.out 3; have hfz23_4 := blk_frozen BK105.out 4; have hfz23_5 := blk_frozen BK105.out 5; have hfz23_6 := blk_frozen BK105.out 6) | ((with_reducible refine gate_callee (f := 59) rfl ?_); refine goesL_ (some 9) rfl rfl Tryd.func59 (by kernel_rfl) rfl #[.slice A0_6 l0_6.length c0_6] rfl (by (try simp only [List.map_toArray, List.map_cons, List.map_nil]); first | done | rfl | (simp only [List.length_drop, List.length_take]; rfl)) ?_; (with_reducible refine (path_Digi_59.calls _ _ l0_6 t108 _ ?side1 ?side2 A3.out).mono ?_); (case side1 => repeat (first | exact (Kd.C_below HR0_6.out HB.out) | (with_reducible refine Kd.C_alloc ?_ _) | (with_reducible refine Kd.C_drewN ?_ _) | (with_reducible refine Kd.C_drew ?_))); (case side2 => exact HC0_6.out); rintro e w24 ⟨v109, rfl, ho0, hb⟩; refine ⟨_, rfl, ?_⟩; have n0_ := Aside0.mk (Kd.R_lower ho0 (below_size (by repeat (first | (with_reducible first | exact HB.out | apply below_alloc | apply pw_below_drewN | apply below_drew1 | refine below_set ?_ GE105.out | refine below_set ?_ GE106.out) | exact HB.out)))); have n1_ := Aside0.mk (blk_below (g := gb105) (o := .cells #[.string a0_0, .int .i64 a0_1, .string a0_2, .int .i64 a0_3, .bool a0_4, .bool a0_5, .slice A0_6 l0_6.length c0_6] 26 (0, 0)) (by (with_reducible repeat (first | refine blk_drewN ?_ _ | refine blk_drew ?_ | refine blk_alloc ?_ _)); exact BK105.out) hb); have n2_ := Aside0.mk (blk_below (g := gb106) (o := .cells #[.string (⟨#[]⟩ : ByteArray), .int .i64 0, .string (⟨#[]⟩ : ByteArray), .int .i64 0, .bool false, .bool false, .slice none 0 0] 26 (0, 0)) (by (with_reducible repeat (first | refine blk_drewN ?_ _ | refine blk_drew ?_ | refine blk_alloc ?_ _)); exact BK106.out) hb); have n3_ := Aside0.mk (below_step (by repeat (first | (with_reducible first | exact HB.out | apply below_alloc | apply pw_below_drewN | apply below_drew1 | refine below_set ?_ GE105.out | refine below_set ?_ GE106.out) | exact HB.out)) hb); clear BK105; clear BK106; clear HB; have HO110 := n0_; have BK105 := n1_; have BK106 := n2_; have HB := n3_; clear n0_ n1_ n2_ n3_; (try clear hb); (try clear hb2); (try clear hk); (try clear hi); (try clear ho0); obtain ⟨Ao25, co25, eo25⟩ := Kd.R_slice HO110.out; subst eo25; have hcz26_0 : w24.cell? ⟨gb105, 0, none⟩ = some (.string a0_0) := (blk_cell BK105.out 0).trans rfl; have hcz26_1 : w24.cell? ⟨gb105, 1, none⟩ = some (.int .i64 a0_1) := (blk_cell BK105.out 1).trans rfl; have hcz26_2 : w24.cell? ⟨gb105, 2, none⟩ = some (.string a0_2) := (blk_cell BK105.out 2).trans rfl; have hcz26_3 : w24.cell? ⟨gb105, 3, none⟩ = some (.int .i64 a0_3) := (blk_cell BK105.out 3).trans rfl; have hcz26_4 : w24.cell? ⟨gb105, 4, none⟩ = some (.bool a0_4) := (blk_cell BK105.out 4).trans rfl; have hcz26_5 : w24.cell? ⟨gb105, 5, none⟩ = some (.bool a0_5) := (blk_cell BK105.out 5).trans rfl; have hcz26_6 : w24.cell? ⟨gb105, 6, none⟩ = some (.slice A0_6 l0_6.length c0_6) := (blk_cell BK105.out 6).trans rfl; have hfz26_0 := blk_frozen BK105.out 0; have hfz26_1 := blk_frozen BK105.out 1; have hfz26_2 := blk_frozen BK105.out 2; have hfz26_3 := blk_frozen BK105.out 3; have hfz26_4 := blk_frozen BK105.out 4; have hfz26_5 := blk_frozen BK105.out 5; have hfz26_6 := blk_frozen BK105.out 6) | ((with_reducible refine gate_store (t := 24) (p := 10) rfl ?_); refine store_event (t := 24) (p := 10) (v := ?vo_w27) (w1 := (w24.setCell ⟨gb105, 6, none⟩ (.slice Ao25 t108.length co25))) ?hg ?ho ?hn ?hr ?_; (case ho => rfl); (case hg => rfl); (case hn => rfl); (case hr => first | (go_simp; done) | (go_simp; rfl)); intro w27 hw; have n0_ : Aside0 (Kd.R k93 93 w27 w.heap.size (fun _ => True) (.slice Ao25 t108.length co25) t108) := ⟨(by rw [hw]; exact (by (with_reducible repeat (first | apply Kd.R_alloc | apply Kd.R_drewN | apply Kd.R_drew)); exact Kd.R_mono (Kd.R_far (p := ⟨gb105, 6, none⟩) (Kd.R_types HO110.out BK105.out (by decide)) (fun _ hk => hk.2) (.slice Ao25 t108.length co25)) (fun _ hk => trivial)))⟩; have n1_ : Aside0 (w27.heap[gb105]? = some (.cells #[.string a0_0, .int .i64 a0_1, .string a0_2, .int .i64 a0_3, .bool a0_4, .bool a0_5, .slice Ao25 t108.length co25] 26 (0, 0))) := ⟨(by rw [hw]; exact (by (with_reducible repeat (first | refine blk_drewN ?_ _ | refine blk_drew ?_ | refine blk_alloc ?_ _)); refine blk_put (cs := #[.string a0_0, .int .i64 a0_1, .string a0_2, .int .i64 a0_3, .bool a0_4, .bool a0_5, .slice A0_6 l0_6.length c0_6]) ?_ 6 _ rfl; (with_reducible repeat (first | refine blk_drewN ?_ _ | refine blk_drew ?_ | refine blk_alloc ?_ _)); exact BK105.out))⟩; have n2_ : Aside0 (w27.heap[gb106]? = some (.cells #[.string (⟨#[]⟩ : ByteArray), .int .i64 0, .string (⟨#[]⟩ : ByteArray), .int .i64 0, .bool false, .bool false, .slice none 0 0] 26 (0, 0))) := ⟨(by rw [hw]; exact (by (with_reducible repeat (first | refine blk_drewN ?_ _ | refine blk_drew ?_ | refine blk_alloc ?_ _)); refine blk_far ?_ NB106_105.out _; (with_reducible repeat (first | refine blk_drewN ?_ _ | refine blk_drew ?_ | refine blk_alloc ?_ _)); exact BK106.out))⟩; have n3_ : Aside0 (Below w.heap.size w w27) := ⟨(by rw [hw]; exact (by repeat (first | (with_reducible first | exact HB.out | apply below_alloc | apply pw_below_drewN | apply below_drew1 | refine below_set ?_ GE105.out | refine below_set ?_ GE106.out) | exact HB.out)))⟩; clear hw; clear HO110; clear BK105; clear BK106; clear HB; have HO110 := n0_; have BK105 := n1_; have BK106 := n2_; have HB := n3_; clear n0_ n1_ n2_ n3_; have hcz28_0 : w27.cell? ⟨gb105, 0, none⟩ = some (.string a0_0) := (blk_cell BK105.out 0).trans rfl; have hcz28_1 : w27.cell? ⟨gb105, 1, none⟩ = some (.int .i64 a0_1) := (blk_cell BK105.out 1).trans rfl; have hcz28_2 : w27.cell? ⟨gb105, 2, none⟩ = some (.string a0_2) := (blk_cell BK105.out 2).trans rfl; have hcz28_3 : w27.cell? ⟨gb105, 3, none⟩ = some (.int .i64 a0_3) := (blk_cell BK105.out 3).trans rfl; have hcz28_4 : w27.cell? ⟨gb105, 4, none⟩ = some (.bool a0_4) := (blk_cell BK105.out 4).trans rfl; have hcz28_5 : w27.cell? ⟨gb105, 5, none⟩ = some (.bool a0_5) := (blk_cell BK105.out 5).trans rfl; have hcz28_6 : w27.cell? ⟨gb105, 6, none⟩ = some (.slice Ao25 t108.length co25) := (blk_cell BK105.out 6).trans rfl; have hfz28_0 := blk_frozen BK105.out 0; have hfz28_1 := blk_frozen BK105.out 1; have hfz28_2 := blk_frozen BK105.out 2; have hfz28_3 := blk_frozen BK105.out 3; have hfz28_4 := blk_frozen BK105.out 4; have hfz28_5 := blk_frozen BK105.out 5; have hfz28_6 := blk_frozen BK105.out 6; have p17 : 0 ≤ (t107 : Int) := of_decide_eq_true (by first | (with_reducible assumption) | assumption); have q17 : (t107 : Int) < ((t108.length : Int) : Int) := of_decide_eq_true (by first | (with_reducible assumption) | assumption); obtain ⟨go17, co17, eo17, gb17, gl17, cl17, HG17⟩ := Kd.R_form HO110.out (by omega); (first | cases eo17 | (injection eo17 with ea_ en_ ec_; (first | subst ea_ | (injection ea_ with ea_; subst ea_)); subst ec_; clear en_)); have GB17 := Aside0.mk gb17; have GG17 := Aside0.mk HG17; clear gb17 gl17 HG17; obtain ⟨ce17, hcl17, hM17, hcc17, hfr17⟩ := Kd.R_elem HO110.out z93 (t107 : Int) p17 q17; obtain rfl := k93_openM hM17; have hx17_0 : w27.cell? ⟨go17, (t107 : Int).toNat * 3, none⟩ = some (.string ((rd_T93 t108 t107).f0.f0)) := hcc17 0 _ rfl; have hx17_1 : w27.cell? ⟨go17, (t107 : Int).toNat * 3 + 1, none⟩ = some (.int .i64 ((rd_T93 t108 t107).f0.f1)) := hcc17 1 _ rfl; have hx17_2 : w27.cell? ⟨go17, (t107 : Int).toNat * 3 + 2, none⟩ = some (.bool ((rd_T93 t108 t107).f1)) := hcc17 2 _ rfl; have hf17_0 : w27.frozen? ⟨go17, (t107 : Int).toNat * 3, none⟩ = false := hfr17 0; have hf17_1 : w27.frozen? ⟨go17, (t107 : Int).toNat * 3 + 1, none⟩ = false := hfr17 1; have hf17_2 : w27.frozen? ⟨go17, (t107 : Int).toNat * 3 + 2, none⟩ = false := hfr17 2; clear hcl17 hcc17 hfr17 hM17; replace p17 := eq_true p17; replace q17 := eq_true q17; have HX29 := Aside0.mk (show Kd.R k93 93 w27 w.heap.size (fun _ => True) (.slice (some ⟨go17, 0, none⟩) t108.length co25) t108 from (by (with_reducible repeat (first | apply Kd.R_alloc | apply Kd.R_drewN | apply Kd.R_drew)); exact HO110.out)); obtain ⟨ce29, hcl29, hM29, hcc29, hfr29⟩ := Kd.R_elem HX29.out z93 (t107 : Int) (of_decide_eq_true (by first | (with_reducible assumption) | assumption)) (by have h_ : (t107 : Int) < ((t108.length : Int) : Int) := of_decide_eq_true (by first | (with_reducible assumption) | assumption); first | exact h_ | (have e_ := (Kd.R_reads' HO110.out).1; omega) | simpa using h_); obtain rfl := k93_openM hM29; have HP29 := Kd.R_seg HX29.out (t107 : Int) (of_decide_eq_true (by first | (with_reducible assumption) | assumption)) (by have h_ : (t107 : Int) < ((t108.length : Int) : Int) := of_decide_eq_true (by first | (with_reducible assumption) | assumption); first | exact h_ | (have e_ := (Kd.R_reads' HO110.out).1; omega) | simpa using h_) (seg := [.bool true]) (j := 2) hcl29 hcc29 (show 3 ≤ 3 from by decide) (x' := (⟨(⟨(rd_T93 t108 t107).f0.f0, (rd_T93 t108 t107).f0.f1⟩ : S23), true⟩ : S93)) (k93_mkM _ _ _ (⟨(⟨(rd_T93 t108 t107).f0.f0, (rd_T93 t108 t107).f0.f1⟩ : S23), true⟩ : S93) ) (fun _ hk => hk); have hx29_2 := hcc29 2 _ rfl; (try simp only [show (k93).sz = 3 from rfl, Nat.mul_one, Nat.add_zero] at hx29_2); have hf29_2 := hfr29 2; (try simp only [show (k93).sz = 3 from rfl, Nat.mul_one, Nat.add_zero] at hf29_2); clear hcl29 hcc29 hfr29 hM29) | ((with_reducible refine gate_store (t := 4) (p := 18) rfl ?_); refine store_event (t := 4) (p := 18) (v := ?vo_w30) (w1 := (w27.setCell ⟨go17, (t107 : Int).toNat * 3 + 2, none⟩ (.bool true))) ?hg ?ho ?hn ?hr ?_; (case ho => rfl); (case hg => rfl); (case hn => rfl); (case hr => first | (go_simp; done) | (go_simp; rfl)); intro w30 hw; have hg : w27.grownBy w30 (some go17) := (by rw [hw]; exact HP29.2); have hp_ : Kd.R k93 93 w30 w.heap.size (fun _ => True) (.slice (some ⟨go17, 0, none⟩) t108.length co25) y111 := (by rw [hw, Ny111.out]; exact HP29.1); clear HP29; have n0_ := Aside0.mk (blk_grown (g := gb105) (o := .cells #[.string a0_0, .int .i64 a0_1, .string a0_2, .int .i64 a0_3, .bool a0_4, .bool a0_5, .slice (some ⟨go17, 0, none⟩) t108.length co25] 26 (0, 0)) (by (with_reducible repeat (first | refine blk_drewN ?_ _ | refine blk_drew ?_ | refine blk_alloc ?_ _)); exact BK105.out) hg (Kd.R_ne HO110.out BK105.out (by decide))); have n1_ := Aside0.mk (blk_grown (g := gb106) (o := .cells #[.string (⟨#[]⟩ : ByteArray), .int .i64 0, .string (⟨#[]⟩ : ByteArray), .int .i64 0, .bool false, .bool false, .slice none 0 0] 26 (0, 0)) (by (with_reducible repeat (first | refine blk_drewN ?_ _ | refine blk_drew ?_ | refine blk_alloc ?_ _)); exact BK106.out) hg (Kd.R_ne HO110.out BK106.out (by decide))); have n2_ := Aside0.mk (hp_); have n3_ := Aside0.mk ((by rw [hw]; exact below_set (HB.out) GB17.out : Below w.heap.size w w30)); clear BK105; clear BK106; clear HO110; clear HB; have BK105 := n0_; have BK106 := n1_; have HO110 := n2_; have HB := n3_; clear n0_ n1_ n2_ n3_; clear hg hw hp_; have hcz31_0 : w30.cell? ⟨gb105, 0, none⟩ = some (.string a0_0) := (blk_cell BK105.out 0).trans rfl; have hcz31_1 : w30.cell? ⟨gb105, 1, none⟩ = some (.int .i64 a0_1) := (blk_cell BK105.out 1).trans rfl; have hcz31_2 : w30.cell? ⟨gb105, 2, none⟩ = some (.string a0_2) := (blk_cell BK105.out 2).trans rfl; have hcz31_3 : w30.cell? ⟨gb105, 3, none⟩ = some (.int .i64 a0_3) := (blk_cell BK105.out 3).trans rfl; have hcz31_4 : w30.cell? ⟨gb105, 4, none⟩ = some (.bool a0_4) := (blk_cell BK105.out 4).trans rfl; have hcz31_5 : w30.cell? ⟨gb105, 5, none⟩ = some (.bool a0_5) := (blk_cell BK105.out 5).trans rfl; have hcz31_6 : w30.cell? ⟨gb105, 6, none⟩ = some (.slice (some ⟨go17, 0, none⟩) t108.length co25) := (blk_cell BK105.out 6).trans rfl; have hfz31_0 := blk_frozen BK105.out 0; have hfz31_1 := blk_frozen BK105.out 1; have hfz31_2 := blk_frozen BK105.out 2; have hfz31_3 := blk_frozen BK105.out 3; have hfz31_4 := blk_frozen BK105.out 4; have hfz31_5 := blk_frozen BK105.out 5; have hfz31_6 := blk_frozen BK105.out 6; have hcz32_0 : w30.cell? ⟨gb106, 0, none⟩ = some (.string (⟨#[]⟩ : ByteArray)) := (blk_cell BK106.out 0).trans rfl; have hcz32_1 : w30.cell? ⟨gb106, 1, none⟩ = some (.int .i64 0) := (blk_cell BK106.out 1).trans rfl; have hcz32_2 : w30.cell? ⟨gb106, 2, none⟩ = some (.string (⟨#[]⟩ : ByteArray)) := (blk_cell BK106.out 2).trans rfl; have hcz32_3 : w30.cell? ⟨gb106, 3, none⟩ = some (.int .i64 0) := (blk_cell BK106.out 3).trans rfl; have hcz32_4 : w30.cell? ⟨gb106, 4, none⟩ = some (.bool false) := (blk_cell BK106.out 4).trans rfl; have hcz32_5 : w30.cell? ⟨gb106, 5, none⟩ = some (.bool false) := (blk_cell BK106.out 5).trans rfl; have hcz32_6 : w30.cell? ⟨gb106, 6, none⟩ = some (.slice none 0 0) := (blk_cell BK106.out 6).trans rfl; have hfz32_0 := blk_frozen BK106.out 0; have hfz32_1 := blk_frozen BK106.out 1; have hfz32_2 := blk_frozen BK106.out 2; have hfz32_3 := blk_frozen BK106.out 3; have hfz32_4 := blk_frozen BK106.out 4; have hfz32_5 := blk_frozen BK106.out 5; have hfz32_6 := blk_frozen BK106.out 6))
    refine bodyPost_ret (results_ct rfl _ _ gb106 26 #[.string a0_0, .int .i64 a0_1, .string a0_2, .int .i64 a0_3, .bool a0_4, .bool a0_5, .slice (some ⟨go17, 0, none⟩) t108.length co25] (0, 0) _ rfl (by (with_reducible repeat (first | refine blk_drewN ?_ _ | refine blk_drew ?_ | refine blk_alloc ?_ _)); refine blk_put (cs := #[.string a0_0, .int .i64 a0_1, .string a0_2, .int .i64 a0_3, .bool a0_4, .bool a0_5, .slice none 0 0]) ?_ 6 _ rfl; (with_reducible repeat (first | refine blk_drewN ?_ _ | refine blk_drew ?_ | refine blk_alloc ?_ _)); refine blk_put (cs := #[.string a0_0, .int .i64 a0_1, .string a0_2, .int .i64 a0_3, .bool a0_4, .bool false, .slice none 0 0]) ?_ 5 _ rfl; (with_reducible repeat (first | refine blk_drewN ?_ _ | refine blk_drew ?_ | refine blk_alloc ?_ _)); refine blk_put (cs := #[.string a0_0, .int .i64 a0_1, .string a0_2, .int .i64 a0_3, .bool false, .bool false, .slice none 0 0]) ?_ 4 _ rfl; (with_reducible repeat (first | refine blk_drewN ?_ _ | refine blk_drew ?_ | refine blk_alloc ?_ _)); refine blk_put (cs := #[.string a0_0, .int .i64 a0_1, .string a0_2, .int .i64 0, .bool false, .bool false, .slice none 0 0]) ?_ 3 _ rfl; (with_reducible repeat (first | refine blk_drewN ?_ _ | refine blk_drew ?_ | refine blk_alloc ?_ _)); refine blk_put (cs := #[.string a0_0, .int .i64 a0_1, .string (⟨#[]⟩ : ByteArray), .int .i64 0, .bool false, .bool false, .slice none 0 0]) ?_ 2 _ rfl; (with_reducible repeat (first | refine blk_drewN ?_ _ | refine blk_drew ?_ | refine blk_alloc ?_ _)); refine blk_put (cs := #[.string a0_0, .int .i64 0, .string (⟨#[]⟩ : ByteArray), .int .i64 0, .bool false, .bool false, .slice none 0 0]) ?_ 1 _ rfl; (with_reducible repeat (first | refine blk_drewN ?_ _ | refine blk_drew ?_ | refine blk_alloc ?_ _)); refine blk_put (cs := #[.string (⟨#[]⟩ : ByteArray), .int .i64 0, .string (⟨#[]⟩ : ByteArray), .int .i64 0, .bool false, .bool false, .slice none 0 0]) ?_ 0 _ rfl; (with_reducible repeat (first | refine blk_drewN ?_ _ | refine blk_drew ?_ | refine blk_alloc ?_ _)); exact BK106.out) Tryd.underlying26 rfl (by kernel_rfl)) rfl ?_
    exact ⟨_, by first | rfl | (simp [errW_none, errW_some] <;> rfl) | (simp [*, errW_none, errW_some] <;> rfl), by (with_reducible repeat (first | apply Kd.R_alloc | apply Kd.R_drewN | apply Kd.R_drew)); exact Kd.R_mono (Kd.R_far (p := ⟨gb106, 6, none⟩) (Kd.R_far (p := ⟨gb106, 5, none⟩) (Kd.R_far (p := ⟨gb106, 4, none⟩) (Kd.R_far (p := ⟨gb106, 3, none⟩) (Kd.R_far (p := ⟨gb106, 2, none⟩) (Kd.R_far (p := ⟨gb106, 1, none⟩) (Kd.R_far (p := ⟨gb106, 0, none⟩) (Kd.R_types HO110.out BK106.out (by decide)) (fun _ hk => hk.2) (.string a0_0)) (fun _ hk => hk.2) (.int .i64 a0_1)) (fun _ hk => hk.2) (.string a0_2)) (fun _ hk => hk.2) (.int .i64 a0_3)) (fun _ hk => hk.2) (.bool a0_4)) (fun _ hk => hk.2) (.bool a0_5)) (fun _ hk => hk.2) (.slice (some ⟨go17, 0, none⟩) t108.length co25)) (fun _ hk => trivial), by repeat (first | (with_reducible first | exact HB.out | apply below_alloc | apply pw_below_drewN | apply below_drew1 | refine below_set ?_ GE105.out | refine below_set ?_ GE106.out) | exact HB.out)⟩
   ·rw [if_neg c16] at H
    exact absurd H (by simp)
  ·rw [if_neg c15] at H
   exact absurd H (by simp)

end Go.Proofs.YtpmieapgbdbabaaDoor.QAll
end

section
/- squelchlaw05.awake, walked by hand: the document's example comes out as it says. -/
set_option linter.unusedVariables false
set_option linter.unusedSimpArgs false
namespace Go.Proofs.YtpmieapgbdbabaaDoor.QAll
open Go.RowKit Go.Shelf Go.Proofs.YtpmieapgbdbabaaDoorW.PrintWords Go.Proofs.YtpmieapgbdbabaaDoorW.PrintLast Go.Proofs.YtpmieapgbdbabaaDoorW.PrintMore

def exC : S93 := ⟨⟨⟨#[67]⟩, 0⟩, false⟩
def exD : S93 := ⟨⟨⟨#[68]⟩, 0⟩, false⟩
def exC1 : S93 := ⟨⟨⟨#[67]⟩, 0⟩, true⟩
theorem via_ex : path_Via.f 10 ⟨#[65]⟩ 0 ⟨#[66]⟩ 0 true [⟨⟨#[67]⟩, 0⟩, ⟨⟨#[68]⟩, 0⟩] = some (⟨#[66]⟩, 0, ⟨#[65]⟩, 0, true, false, [exC, exD], 0) := by kernel_rfl
theorem sent_ex : path_Sent.f ⟨#[66]⟩ 0 ⟨#[65]⟩ 0 true false [exC, exD] = some (⟨#[66]⟩, 0, ⟨#[65]⟩, 0, true, false, [exC1, exD], true) := by kernel_rfl
theorem next_ex : path_Next.f ⟨#[66]⟩ 0 ⟨#[65]⟩ 0 true false [exC1, exD] = some (⟨#[68]⟩, 0, true) := by kernel_rfl
theorem text_ex : path_Text.f ⟨#[66]⟩ 0 ⟨#[65]⟩ 0 true false [exC1, exD] = some ⟨#[65, 62, 66, 44, 67, 42, 44, 68]⟩ := by kernel_rfl
theorem command_ex : path_Command.f ⟨#[66]⟩ 0 ⟨#[65]⟩ 0 true false [exC1, exD] = some true := by kernel_rfl
def squelchlaw05_awake.f : Option Bool := some true
set_option maxHeartbeats 1000000 in
set_option maxRecDepth 100000 in
theorem squelchlaw05_awake.calls (r : Bool) (w : World) (h : squelchlaw05_awake.f = some r) :
    Calls Tryd.prog 15 #[] w fun e w' => e = .returned (.bool r) ∧ Below w.heap.size w w' := by
  obtain rfl := Option.some.inj h
  have hu26 := Tryd.underlying26
  have hu23 := Tryd.underlying23
  have HB := Aside0.mk (Below.refl w.heap.size w)
  go_enter Tryd.func15, Tryd.ntmps15
  go_wp2_with (fail)
  generalize hW4 : (((w.alloc (Obj.cells #[Value.string ⟨#[65]⟩, Value.int IntKind.i64 0] 23)).alloc (Obj.cells #[Value.string ⟨#[66]⟩, Value.int IntKind.i64 0] 23)).alloc (Obj.cells #[Value.string ⟨#[67]⟩, Value.int IntKind.i64 0] 23)).alloc (Obj.cells #[Value.string ⟨#[68]⟩, Value.int IntKind.i64 0] 23) = W4
  have hs4 : W4.heap.size = w.heap.size + 1 + 1 + 1 + 1 := by rw [← hW4]; simp
  have HD4 := Aside0.mk (show W4.heap[w.heap.size + 1 + 1 + 1]? = some (.cells #[.string ⟨#[68]⟩, .int .i64 0] 23 (0, 0)) by
    rw [← hW4]
    have := heap_alloc_new (((w.alloc (Obj.cells #[Value.string ⟨#[65]⟩, Value.int IntKind.i64 0] 23)).alloc (Obj.cells #[Value.string ⟨#[66]⟩, Value.int IntKind.i64 0] 23)).alloc (Obj.cells #[Value.string ⟨#[67]⟩, Value.int IntKind.i64 0] 23)) (Obj.cells #[Value.string ⟨#[68]⟩, Value.int IntKind.i64 0] 23)
    simpa using this)
  have HB4 := Aside0.mk (show Below w.heap.size w W4 by
    rw [← hW4]
    exact ((((Below.refl _ _).alloc (Nat.le_refl _) _).alloc (by simp) _).alloc (by simp; omega) _).alloc (by simp; omega) _)
  rw [← hs4]
  clear hW4
  have hR : Kd.R k23 23 (W4.alloc (.cells #[.string ⟨#[67]⟩, .int .i64 0, .string ⟨#[68]⟩, .int .i64 0] 23)) W4.heap.size (fun _ => True) (.slice (some ⟨W4.heap.size, 0, none⟩) 2 2) [⟨⟨#[67]⟩, 0⟩, ⟨⟨#[68]⟩, 0⟩] :=
    ⟨fun _ _ => trivial, OwnRow.lit W4 W4.heap.size (inner := [.string ⟨#[67]⟩, .int .i64 0, .string ⟨#[68]⟩, .int .i64 0]) (Reps.c2 (k23_mkM _ _ _ (⟨⟨#[67]⟩, 0⟩ : S23)) (Reps.c2 (k23_mkM _ _ _ (⟨⟨#[68]⟩, 0⟩ : S23)) (Reps.none _ _))) (Nat.le_refl _) (by decide)⟩
  obtain ⟨A, c, hv, hle, hC⟩ := Kd.R_reads hR
  cases hv
  refine (path_Via.calls 10 ⟨#[65]⟩ 0 ⟨#[66]⟩ 0 true (some ⟨W4.heap.size, 0, none⟩) 2 [⟨⟨#[67]⟩, 0⟩, ⟨⟨#[68]⟩, 0⟩] _ _ _ _ _ _ _ _ _ hC hle via_ex).mono ?_
  rintro e w5 ⟨v6, rfl, ho, hb⟩
  obtain ⟨A1, c1, rfl, hle1, hC1⟩ := Kd.R_reads ho
  have HC1 := Aside0.mk hC1
  have hz4 := hs4
  have HD5 := Aside0.mk ((hb.block (w.heap.size + 1 + 1 + 1) (by simp; omega)).trans ((Below.heap_alloc W4 _ _ (by omega)).trans HD4.out))
  have HB5 := Aside0.mk (below_then (HB4.out.alloc HB4.out.size _) (by simp; omega) hb)
  have hz5 : w.heap.size + 5 ≤ w5.heap.size := by have := hb.size; simp at this; omega
  clear hb ho hC1 hC hR HD4 HB4 hle HB
  go_wp2_with (fail)
  refine (path_Sent.calls ⟨#[66]⟩ 0 ⟨#[65]⟩ 0 true false A1 c1 [exC, exD] _ _ _ _ _ _ _ _ _ (Kd.C_below HC1.out ((Below.refl _ _).alloc (Nat.le_refl _) _)) hle1 sent_ex).mono ?_
  rintro e w6 ⟨v6, rfl, ho, hb⟩
  obtain ⟨A2, c2, rfl, hle2, hC2⟩ := Kd.R_reads ho
  have HC2 := Aside0.mk hC2
  have HD6 := Aside0.mk ((hb.block (w.heap.size + 1 + 1 + 1) (by simp; omega)).trans ((Below.heap_alloc w5 _ _ (by omega)).trans HD5.out))
  have HB6 := Aside0.mk (below_then (HB5.out.alloc HB5.out.size _) (by simp; omega) hb)
  have hz6 : w5.heap.size + 1 ≤ w6.heap.size := by have := hb.size; simpa using this
  clear hb ho hC2 HD5 HB5 HC1
  go_wp2_with (fail)
  refine (path_Next.calls ⟨#[66]⟩ 0 ⟨#[65]⟩ 0 true false A2 c2 [exC1, exD] _ _ _ _ (Kd.C_below HC2.out ((Below.refl _ _).alloc (Nat.le_refl _) _)) hle2 next_ex).mono ?_
  rintro e w7 ⟨rfl, hb⟩
  have HD7 := Aside0.mk ((hb.block (w.heap.size + 1 + 1 + 1) (by simp; omega)).trans ((Below.heap_alloc w6 _ _ (by omega)).trans HD6.out))
  have HQ7 := Aside0.mk ((hb.block w6.heap.size (by simp)).trans (heap_alloc_new w6 _))
  have HB7 := Aside0.mk (below_then (HB6.out.alloc HB6.out.size _) (by simp; omega) hb)
  have HC7 := Aside0.mk (Kd.C_below (Kd.C_below HC2.out ((Below.refl _ _).alloc (Nat.le_refl _) _)) hb)
  have hz7 : w6.heap.size + 1 ≤ w7.heap.size := by have := hb.size; simpa using this
  clear hb HD6 HB6 HC2
  have HQ8 := Aside0.mk ((Below.heap_alloc w7 (Obj.cells #[Value.string ⟨#[68]⟩, Value.int IntKind.i64 0] 23) w6.heap.size (by omega)).trans HQ7.out)
  have HD8 := Aside0.mk ((Below.heap_alloc w7 (Obj.cells #[Value.string ⟨#[68]⟩, Value.int IntKind.i64 0] 23) (w.heap.size + 1 + 1 + 1) (by omega)).trans HD7.out)
  have q0 := blk_cell HQ8.out 0
  have q1 := blk_cell HQ8.out 1
  have q2 := blk_cell HQ8.out 2
  have q3 := blk_cell HQ8.out 3
  have q4 := blk_cell HQ8.out 4
  have q5 := blk_cell HQ8.out 5
  have q6 := blk_cell HQ8.out 6
  replace q0 : (w7.alloc (Obj.cells #[Value.string ⟨#[68]⟩, Value.int IntKind.i64 0] 23)).cell? ⟨w6.heap.size, 0, none⟩ = some (.string ⟨#[66]⟩) := q0
  replace q1 : (w7.alloc (Obj.cells #[Value.string ⟨#[68]⟩, Value.int IntKind.i64 0] 23)).cell? ⟨w6.heap.size, 1, none⟩ = some (.int .i64 0) := q1
  replace q2 : (w7.alloc (Obj.cells #[Value.string ⟨#[68]⟩, Value.int IntKind.i64 0] 23)).cell? ⟨w6.heap.size, 2, none⟩ = some (.string ⟨#[65]⟩) := q2
  replace q3 : (w7.alloc (Obj.cells #[Value.string ⟨#[68]⟩, Value.int IntKind.i64 0] 23)).cell? ⟨w6.heap.size, 3, none⟩ = some (.int .i64 0) := q3
  replace q4 : (w7.alloc (Obj.cells #[Value.string ⟨#[68]⟩, Value.int IntKind.i64 0] 23)).cell? ⟨w6.heap.size, 4, none⟩ = some (.bool true) := q4
  replace q5 : (w7.alloc (Obj.cells #[Value.string ⟨#[68]⟩, Value.int IntKind.i64 0] 23)).cell? ⟨w6.heap.size, 5, none⟩ = some (.bool false) := q5
  replace q6 : (w7.alloc (Obj.cells #[Value.string ⟨#[68]⟩, Value.int IntKind.i64 0] 23)).cell? ⟨w6.heap.size, 6, none⟩ = some (.slice A2 2 c2) := q6
  have d0 : (w7.alloc (Obj.cells #[Value.string ⟨#[68]⟩, Value.int IntKind.i64 0] 23)).cell? ⟨w.heap.size + 1 + 1 + 1, 0, none⟩ = some (.string ⟨#[68]⟩) := blk_cell HD8.out 0
  have d1 : (w7.alloc (Obj.cells #[Value.string ⟨#[68]⟩, Value.int IntKind.i64 0] 23)).cell? ⟨w.heap.size + 1 + 1 + 1, 1, none⟩ = some (.int .i64 0) := blk_cell HD8.out 1
  go_wp2_with (fail)
  refine (path_Text.calls ⟨#[66]⟩ 0 ⟨#[65]⟩ 0 true false A2 c2 [exC1, exD] _ _ (Kd.C_below HC7.out ((Below.refl _ _).alloc (Nat.le_refl _) _)) hle2 text_ex).mono ?_
  rintro e w9 ⟨rfl, hb⟩
  have HQ9 := Aside0.mk ((hb.block w6.heap.size (by simp; omega)).trans HQ8.out)
  have HD9 := Aside0.mk ((hb.block (w.heap.size + 1 + 1 + 1) (by simp; omega)).trans HD8.out)
  have HN9 := Aside0.mk ((hb.block w7.heap.size (by simp)).trans (heap_alloc_new w7 _))
  have HB9 := Aside0.mk (below_then (HB7.out.alloc HB7.out.size _) (by simp; omega) hb)
  have HC9 := Aside0.mk (Kd.C_below (Kd.C_below HC7.out ((Below.refl _ _).alloc (Nat.le_refl _) _)) hb)
  clear hb q0 q1 q2 q3 q4 q5 q6 d0 d1
  have q0 := blk_cell HQ9.out 0
  have q1 := blk_cell HQ9.out 1
  have q2 := blk_cell HQ9.out 2
  have q3 := blk_cell HQ9.out 3
  have q4 := blk_cell HQ9.out 4
  have q5 := blk_cell HQ9.out 5
  have q6 := blk_cell HQ9.out 6
  replace q0 : w9.cell? ⟨w6.heap.size, 0, none⟩ = some (.string ⟨#[66]⟩) := q0
  replace q1 : w9.cell? ⟨w6.heap.size, 1, none⟩ = some (.int .i64 0) := q1
  replace q2 : w9.cell? ⟨w6.heap.size, 2, none⟩ = some (.string ⟨#[65]⟩) := q2
  replace q3 : w9.cell? ⟨w6.heap.size, 3, none⟩ = some (.int .i64 0) := q3
  replace q4 : w9.cell? ⟨w6.heap.size, 4, none⟩ = some (.bool true) := q4
  replace q5 : w9.cell? ⟨w6.heap.size, 5, none⟩ = some (.bool false) := q5
  replace q6 : w9.cell? ⟨w6.heap.size, 6, none⟩ = some (.slice A2 2 c2) := q6
  have d0 : w9.cell? ⟨w.heap.size + 1 + 1 + 1, 0, none⟩ = some (.string ⟨#[68]⟩) := blk_cell HD9.out 0
  have d1 : w9.cell? ⟨w.heap.size + 1 + 1 + 1, 1, none⟩ = some (.int .i64 0) := blk_cell HD9.out 1
  have n0 : w9.cell? ⟨w7.heap.size, 0, none⟩ = some (.string ⟨#[68]⟩) := blk_cell HN9.out 0
  have n1 : w9.cell? ⟨w7.heap.size, 1, none⟩ = some (.int .i64 0) := blk_cell HN9.out 1
  go_wp2_with (fail)
  refine (path_Command.calls ⟨#[66]⟩ 0 ⟨#[65]⟩ 0 true false A2 c2 [exC1, exD] _ _ HC9.out hle2 command_ex).mono ?_
  rintro e w10 ⟨rfl, hb⟩
  go_wp2_with (fail)
  go_ret
  exact ⟨rfl, below_then HB9.out HB9.out.size hb⟩
end Go.Proofs.YtpmieapgbdbabaaDoor.QAll
end

section
/- Walks, written by a program of this session (wip/pp): a Go function comes to what the Lean function beside it tells. -/
namespace Go.Proofs.YtpmieapgbdbabaaDoor.QAll
open Go.RowKit Go.Proofs.YtpmieapgbdbabaaDoorW.PrintWords Go.Proofs.YtpmieapgbdbabaaDoorW.PrintLast Go.Proofs.YtpmieapgbdbabaaDoorW.PrintMore
set_option linter.unusedVariables false
set_option linter.unusedSimpArgs false

def squelchlaw05_PathTexts.j0 : Nat → Bool → ByteArray → Int → ByteArray → Int → Bool → Bool → List (S93) → Option (Bool)
 | 0, _, _, _, _, _, _, _, _ => none
 | k + 1, x13, x675000, x675001, x675002, x675003, x675004, x675005, x675006 => if x13 = true then (some true) else ((path_Text.f x675000 x675001 x675002 x675003 x675004 x675005 x675006).bind fun t678 => ((path_Parse.f k t678).bind fun bt679 => (if bt679.2.2.2.2.2.2.2 = 0 then ((squelchlaw05_Plain.f k bt679.1 bt679.2.1 bt679.2.2.1 bt679.2.2.2.1 bt679.2.2.2.2.1 bt679.2.2.2.2.2.1 bt679.2.2.2.2.2.2.1).bind fun t690 => ((squelchlaw05_Plain.f k x675000 x675001 x675002 x675003 true false x675006).bind fun t693 => ((squelchref05_Same.f k t690 t693).bind fun t696 => (if t696 = true then ((path_Text.f bt679.1 bt679.2.1 bt679.2.2.1 bt679.2.2.2.1 bt679.2.2.2.2.1 bt679.2.2.2.2.2.1 bt679.2.2.2.2.2.2.1).bind fun t697 => ((path_Text.f x675000 x675001 x675002 x675003 true false x675006).bind fun t698 => (some (t697.toList == t698.toList)))) else (some false))))) else (some false))))
def squelchlaw05_PathTexts.f (k : Nat) (a0_0 : ByteArray) (a0_1 : Int) (a0_2 : ByteArray) (a0_3 : Int) (a0_4 : Bool) (a0_5 : Bool) (l0_6 : List (S93)) : Option (Bool) := (squelchlaw05_awake.f).bind fun t675 => (if t675 = true then ((squelchlaw05_great.f a0_0 a0_1 a0_2 a0_3 a0_4 a0_5 l0_6).bind fun t676 => (if t676 = true then (squelchlaw05_PathTexts.j0 k true a0_0 a0_1 a0_2 a0_3 a0_4 a0_5 l0_6) else ((path_Right.f a0_0 a0_1 a0_2 a0_3 a0_4 a0_5 l0_6).bind fun t677 => (squelchlaw05_PathTexts.j0 k (!t677) a0_0 a0_1 a0_2 a0_3 a0_4 a0_5 l0_6)))) else (some false))
def squelchlaw05_PathTexts.T7 : Bool × List (List Nat × List Nat) := (true, [([], []), ([0], [0]), ([1], [1]), ([2], [2]), ([3, 2, 2], [2, 3]), ([2], [2]), ([5, 4, 2], [2, 5]), ([4, 6, 6, 2], [2, 4, 6]), ([2, 7], [2, 7]), ([8, 7], [8]), ([9], [9]), ([10, 9, 9], [9, 10]), ([9], [9]), ([12, 11, 9], [9, 12]), ([11, 13, 9], [9, 11, 13]), ([9, 14], [9, 14]), ([15, 13, 0, 1, 2, 3, 4, 5, 6, 7, 8, 9, 10, 11, 12, 13, 14, 15], [15])])
def squelchlaw05_PathTexts.B7 : List Nat := [0, 1, 3, 7, 15, 7, 63, 127, 255, 511, 1023, 2047, 1023, 8191, 16383, 32767, 65535]
theorem squelchlaw05_PathTexts.tab7 : rtab .any (opsOf Tryd.f14 7) = squelchlaw05_PathTexts.T7 := by kernel_rfl
theorem squelchlaw05_PathTexts.bits7 : waitsOk squelchlaw05_PathTexts.T7.2 squelchlaw05_PathTexts.B7 = true := by kernel_rfl
set_option maxHeartbeats 8000000 in
set_option maxRecDepth 100000 in
theorem squelchlaw05_PathTexts.calls (k : Nat) (a0_0 : ByteArray) (a0_1 : Int) (a0_2 : ByteArray) (a0_3 : Int) (a0_4 : Bool) (a0_5 : Bool) (A0_6 : Option Addr) (c0_6 : Nat) (l0_6 : List (S93)) (r : Bool) (w : World) (hE_ : EnvW w) (hT_ : r = true) (hr0_6 : Kd.C k93 w A0_6 l0_6.length l0_6) (hc0_6 : l0_6.length ≤ c0_6) (h : squelchlaw05_PathTexts.f k a0_0 a0_1 a0_2 a0_3 a0_4 a0_5 l0_6 = some r) :
  Calls Tryd.prog 14 #[.agg #[.string a0_0, .int .i64 a0_1, .string a0_2, .int .i64 a0_3, .bool a0_4, .bool a0_5, .slice A0_6 l0_6.length c0_6]] w fun e w' => e = .returned (.bool r) ∧ Below w.heap.size w w' := by
 have hu26 := Tryd.underlying26
 have HR0_6 := Aside0.mk hr0_6
 have HC0_6 := Aside0.mk hc0_6
 clear hr0_6 hc0_6
 have HB := Aside0.mk (Below.refl w.heap.size w)
 have HE := Aside0.mk hE_
 clear hE_
 have HT_ := Aside0.mk hT_
 clear hT_
 have H : ((squelchlaw05_awake.f).bind fun t675 => (if t675 = true then ((squelchlaw05_great.f a0_0 a0_1 a0_2 a0_3 a0_4 a0_5 l0_6).bind fun t676 => (if t676 = true then (squelchlaw05_PathTexts.j0 k true a0_0 a0_1 a0_2 a0_3 a0_4 a0_5 l0_6) else ((path_Right.f a0_0 a0_1 a0_2 a0_3 a0_4 a0_5 l0_6).bind fun t677 => (squelchlaw05_PathTexts.j0 k (!t677) a0_0 a0_1 a0_2 a0_3 a0_4 a0_5 l0_6)))) else (some false))) = some r := h
 clear h
 replace H := Option.bind_eq_some_iff.mp H
 obtain ⟨t675, A20, H⟩ := H
 replace H : (if t675 = true then ((squelchlaw05_great.f a0_0 a0_1 a0_2 a0_3 a0_4 a0_5 l0_6).bind fun t676 => (if t676 = true then (squelchlaw05_PathTexts.j0 k true a0_0 a0_1 a0_2 a0_3 a0_4 a0_5 l0_6) else ((path_Right.f a0_0 a0_1 a0_2 a0_3 a0_4 a0_5 l0_6).bind fun t677 => (squelchlaw05_PathTexts.j0 k (!t677) a0_0 a0_1 a0_2 a0_3 a0_4 a0_5 l0_6)))) else (some false)) = some r := H
 have A2 := Aside0.mk A20
 clear A20
 by_cases c3 : t675 = true
 ·subst c3
  have H1 : ((squelchlaw05_great.f a0_0 a0_1 a0_2 a0_3 a0_4 a0_5 l0_6).bind fun t676 => (if t676 = true then (squelchlaw05_PathTexts.j0 k true a0_0 a0_1 a0_2 a0_3 a0_4 a0_5 l0_6) else ((path_Right.f a0_0 a0_1 a0_2 a0_3 a0_4 a0_5 l0_6).bind fun t677 => (squelchlaw05_PathTexts.j0 k (!t677) a0_0 a0_1 a0_2 a0_3 a0_4 a0_5 l0_6)))) = some r := by rw [if_pos rfl] at H; exact H
  clear H
  have H := H1
  clear H1
  have HC4 := Aside0.mk H
  clear H
  go_enter Tryd.func14, Tryd.ntmps14
  go_upto_region 3 with (first | ((with_reducible refine gate_dst (N := 1) rfl ?_); refine box_event ?hg (N := 1) ?hd (cs := #[.string a0_0, .int .i64 a0_1, .string a0_2, .int .i64 a0_3, .bool a0_4, .bool a0_5, .slice A0_6 l0_6.length c0_6]) (t := 26) ?hr ?_; (case hd => rfl); (case hg => rfl); (case hr => first | (go_simp; done) | (go_simp; rfl)); intro gb674 hg w5 hbox hb; have n0_ := Aside0.mk (below_step (by repeat (first | (with_reducible first | exact HB.out | apply below_alloc | apply pw_below_drewN | apply below_drew1) | exact HB.out)) hb); have n1_ := Aside0.mk (hbox); have n2_ := Aside0.mk ((by rw [hg]; exact (below_size (by repeat (first | (with_reducible first | exact HB.out | apply below_alloc | apply pw_below_drewN | apply below_drew1) | exact HB.out))) : w.heap.size ≤ gb674)); have n3_ := Aside0.mk ((by rw [hg]; exact (below_size (by repeat (first | (with_reducible first | exact HB.out | apply below_alloc | apply pw_below_drewN | apply below_drew1) | exact HB.out))) : w.heap.size ≤ gb674)); clear HB; have HB := n0_; have BK674 := n1_; have GW674 := n2_; have GE674 := n3_; clear n0_ n1_ n2_ n3_; clear hb hbox hg) | ((with_reducible refine gate_callee (f := 15) rfl ?_); refine goesL_ (some 5) rfl rfl Tryd.func15 (by kernel_rfl) rfl #[] rfl (by (try simp only [List.map_toArray, List.map_cons, List.map_nil]); first | done | rfl | (simp only [List.length_drop, List.length_take]; rfl)) ?_; (with_reducible refine (squelchlaw05_awake.calls  true _ A2.out).mono ?_); rintro e w6 ⟨rfl, hb⟩; refine ⟨_, rfl, ?_⟩; have n0_ := Aside0.mk (blk_below (g := gb674) (o := .cells #[.string a0_0, .int .i64 a0_1, .string a0_2, .int .i64 a0_3, .bool a0_4, .bool a0_5, .slice A0_6 l0_6.length c0_6] 26 (0, 0)) (by (with_reducible repeat (first | refine blk_drewN ?_ _ | refine blk_drew ?_ | refine blk_alloc ?_ _)); exact BK674.out) hb); have n1_ := Aside0.mk (below_step (by repeat (first | (with_reducible first | exact HB.out | apply below_alloc | apply pw_below_drewN | apply below_drew1 | refine below_set ?_ GE674.out) | exact HB.out)) hb); clear BK674; clear HB; have BK674 := n0_; have HB := n1_; clear n0_ n1_; (try clear hb); (try clear hb2); (try clear hk); (try clear hi)))
  (try simp only [Act.put, List.setIfInBounds_toArray, List.set_cons_zero, List.set_cons_succ])
  go_cut [13] (fun v13 wc => ∃ (kq : Nat) (x13_3 : Bool), v13 = .bool x13_3 ∧ Aside0 (squelchlaw05_PathTexts.j0 kq x13_3 a0_0 a0_1 a0_2 a0_3 a0_4 a0_5 l0_6 = some r) ∧ Aside0 (kq ≤ k) ∧ Aside0 (wc.heap[gb674]? = some (.cells #[.string a0_0, .int .i64 a0_1, .string a0_2, .int .i64 a0_3, .bool a0_4, .bool a0_5, (.slice A0_6 l0_6.length c0_6)] 26 (0, 0))) ∧ Aside0 (Below w.heap.size w wc))
  case first =>
   have H := HC4.out
   clear HC4
   replace H := Option.bind_eq_some_iff.mp H
   obtain ⟨t676, A70, H⟩ := H
   replace H : (if t676 = true then (squelchlaw05_PathTexts.j0 k true a0_0 a0_1 a0_2 a0_3 a0_4 a0_5 l0_6) else ((path_Right.f a0_0 a0_1 a0_2 a0_3 a0_4 a0_5 l0_6).bind fun t677 => (squelchlaw05_PathTexts.j0 k (!t677) a0_0 a0_1 a0_2 a0_3 a0_4 a0_5 l0_6))) = some r := H
   have A7 := Aside0.mk A70
   clear A70
   by_cases c8 : t676 = true
   ·subst c8
    have H1 : (squelchlaw05_PathTexts.j0 k true a0_0 a0_1 a0_2 a0_3 a0_4 a0_5 l0_6) = some r := by rw [if_pos rfl] at H; exact H
    clear H
    have H := H1
    clear H1
    have H' := Aside0.mk H
    clear H
    have hcz9_0 : w6.cell? ⟨gb674, 0, none⟩ = some (.string a0_0) := (blk_cell BK674.out 0).trans rfl
    have hcz9_1 : w6.cell? ⟨gb674, 1, none⟩ = some (.int .i64 a0_1) := (blk_cell BK674.out 1).trans rfl
    have hcz9_2 : w6.cell? ⟨gb674, 2, none⟩ = some (.string a0_2) := (blk_cell BK674.out 2).trans rfl
    have hcz9_3 : w6.cell? ⟨gb674, 3, none⟩ = some (.int .i64 a0_3) := (blk_cell BK674.out 3).trans rfl
    have hcz9_4 : w6.cell? ⟨gb674, 4, none⟩ = some (.bool a0_4) := (blk_cell BK674.out 4).trans rfl
    have hcz9_5 : w6.cell? ⟨gb674, 5, none⟩ = some (.bool a0_5) := (blk_cell BK674.out 5).trans rfl
    have hcz9_6 : w6.cell? ⟨gb674, 6, none⟩ = some (.slice A0_6 l0_6.length c0_6) := (blk_cell BK674.out 6).trans rfl
    have hfz9_0 := blk_frozen BK674.out 0
    have hfz9_1 := blk_frozen BK674.out 1
    have hfz9_2 := blk_frozen BK674.out 2
    have hfz9_3 := blk_frozen BK674.out 3
    have hfz9_4 := blk_frozen BK674.out 4
    have hfz9_5 := blk_frozen BK674.out 5
    have hfz9_6 := blk_frozen BK674.out 6
    go_wp2_with (first | ((with_reducible refine gate_callee (f := 16) rfl ?_); refine goesL_ (some 8) rfl rfl Tryd.func16 (by kernel_rfl) rfl #[.agg #[.string a0_0, .int .i64 a0_1, .string a0_2, .int .i64 a0_3, .bool a0_4, .bool a0_5, .slice A0_6 l0_6.length c0_6]] rfl (by (try simp only [List.map_toArray, List.map_cons, List.map_nil]); first | done | rfl | (simp only [List.length_drop, List.length_take]; rfl)) ?_; (with_reducible refine (squelchlaw05_great.calls a0_0 a0_1 a0_2 a0_3 a0_4 a0_5 _ _ l0_6 true _ ?side1 ?side2 A7.out).mono ?_); (case side1 => repeat (first | exact (Kd.C_below HR0_6.out HB.out) | (with_reducible refine Kd.C_alloc ?_ _) | (with_reducible refine Kd.C_drewN ?_ _) | (with_reducible refine Kd.C_drew ?_))); (case side2 => exact HC0_6.out); rintro e w10 ⟨rfl, hb⟩; refine ⟨_, rfl, ?_⟩; have n0_ := Aside0.mk (blk_below (g := gb674) (o := .cells #[.string a0_0, .int .i64 a0_1, .string a0_2, .int .i64 a0_3, .bool a0_4, .bool a0_5, .slice A0_6 l0_6.length c0_6] 26 (0, 0)) (by (with_reducible repeat (first | refine blk_drewN ?_ _ | refine blk_drew ?_ | refine blk_alloc ?_ _)); exact BK674.out) hb); have n1_ := Aside0.mk (below_step (by repeat (first | (with_reducible first | exact HB.out | apply below_alloc | apply pw_below_drewN | apply below_drew1 | refine below_set ?_ GE674.out) | exact HB.out)) hb); clear BK674; clear HB; have BK674 := n0_; have HB := n1_; clear n0_ n1_; (try clear hb); (try clear hb2); (try clear hk); (try clear hi)))
    go_meet
    case rel => exact ⟨_, (true), (by first | rfl | (simp; done) | (simp [*]; done) | (simp; exact (fun l : List UInt8 => (by cases l <;> rfl : l.isEmpty = !(l != []))) _)), H', ⟨by first | omega | exact Nat.le_refl _⟩, ⟨by (with_reducible repeat (first | refine blk_drewN ?_ _ | refine blk_drew ?_ | refine blk_alloc ?_ _)); exact BK674.out⟩, ⟨by repeat (first | (with_reducible first | exact HB.out | apply below_alloc | apply pw_below_drewN | apply below_drew1 | refine below_set ?_ GE674.out) | exact HB.out)⟩⟩
   ·replace c8 := Bool.eq_false_iff.mpr c8
    subst c8
    have H1 : ((path_Right.f a0_0 a0_1 a0_2 a0_3 a0_4 a0_5 l0_6).bind fun t677 => (squelchlaw05_PathTexts.j0 k (!t677) a0_0 a0_1 a0_2 a0_3 a0_4 a0_5 l0_6)) = some r := by rw [if_neg (show ¬ (false = true) by decide)] at H; exact H
    clear H
    have H := H1
    clear H1
    replace H := Option.bind_eq_some_iff.mp H
    obtain ⟨t677, A110, H⟩ := H
    replace H : (squelchlaw05_PathTexts.j0 k (!t677) a0_0 a0_1 a0_2 a0_3 a0_4 a0_5 l0_6) = some r := H
    have A11 := Aside0.mk A110
    clear A110
    have H' := Aside0.mk H
    clear H
    have hcz12_0 : w6.cell? ⟨gb674, 0, none⟩ = some (.string a0_0) := (blk_cell BK674.out 0).trans rfl
    have hcz12_1 : w6.cell? ⟨gb674, 1, none⟩ = some (.int .i64 a0_1) := (blk_cell BK674.out 1).trans rfl
    have hcz12_2 : w6.cell? ⟨gb674, 2, none⟩ = some (.string a0_2) := (blk_cell BK674.out 2).trans rfl
    have hcz12_3 : w6.cell? ⟨gb674, 3, none⟩ = some (.int .i64 a0_3) := (blk_cell BK674.out 3).trans rfl
    have hcz12_4 : w6.cell? ⟨gb674, 4, none⟩ = some (.bool a0_4) := (blk_cell BK674.out 4).trans rfl
    have hcz12_5 : w6.cell? ⟨gb674, 5, none⟩ = some (.bool a0_5) := (blk_cell BK674.out 5).trans rfl
    have hcz12_6 : w6.cell? ⟨gb674, 6, none⟩ = some (.slice A0_6 l0_6.length c0_6) := (blk_cell BK674.out 6).trans rfl
    have hfz12_0 := blk_frozen BK674.out 0
    have hfz12_1 := blk_frozen BK674.out 1
    have hfz12_2 := blk_frozen BK674.out 2
    have hfz12_3 := blk_frozen BK674.out 3
    have hfz12_4 := blk_frozen BK674.out 4
    have hfz12_5 := blk_frozen BK674.out 5
    have hfz12_6 := blk_frozen BK674.out 6
    go_wp2_with (first | ((with_reducible refine gate_callee (f := 16) rfl ?_); refine goesL_ (some 8) rfl rfl Tryd.func16 (by kernel_rfl) rfl #[.agg #[.string a0_0, .int .i64 a0_1, .string a0_2, .int .i64 a0_3, .bool a0_4, .bool a0_5, .slice A0_6 l0_6.length c0_6]] rfl (by (try simp only [List.map_toArray, List.map_cons, List.map_nil]); first | done | rfl | (simp only [List.length_drop, List.length_take]; rfl)) ?_; (with_reducible refine (squelchlaw05_great.calls a0_0 a0_1 a0_2 a0_3 a0_4 a0_5 _ _ l0_6 false _ ?side1 ?side2 A7.out).mono ?_); (case side1 => repeat (first | exact (Kd.C_below HR0_6.out HB.out) | (with_reducible refine Kd.C_alloc ?_ _) | (with_reducible refine Kd.C_drewN ?_ _) | (with_reducible refine Kd.C_drew ?_))); (case side2 => exact HC0_6.out); rintro e w13 ⟨rfl, hb⟩; refine ⟨_, rfl, ?_⟩; have n0_ := Aside0.mk (blk_below (g := gb674) (o := .cells #[.string a0_0, .int .i64 a0_1, .string a0_2, .int .i64 a0_3, .bool a0_4, .bool a0_5, .slice A0_6 l0_6.length c0_6] 26 (0, 0)) (by (with_reducible repeat (first | refine blk_drewN ?_ _ | refine blk_drew ?_ | refine blk_alloc ?_ _)); exact BK674.out) hb); have n1_ := Aside0.mk (below_step (by repeat (first | (with_reducible first | exact HB.out | apply below_alloc | apply pw_below_drewN | apply below_drew1 | refine below_set ?_ GE674.out) | exact HB.out)) hb); clear BK674; clear HB; have BK674 := n0_; have HB := n1_; clear n0_ n1_; (try clear hb); (try clear hb2); (try clear hk); (try clear hi); have hcz14_0 : w13.cell? ⟨gb674, 0, none⟩ = some (.string a0_0) := (blk_cell BK674.out 0).trans rfl; have hcz14_1 : w13.cell? ⟨gb674, 1, none⟩ = some (.int .i64 a0_1) := (blk_cell BK674.out 1).trans rfl; have hcz14_2 : w13.cell? ⟨gb674, 2, none⟩ = some (.string a0_2) := (blk_cell BK674.out 2).trans rfl; have hcz14_3 : w13.cell? ⟨gb674, 3, none⟩ = some (.int .i64 a0_3) := (blk_cell BK674.out 3).trans rfl; have hcz14_4 : w13.cell? ⟨gb674, 4, none⟩ = some (.bool a0_4) := (blk_cell BK674.out 4).trans rfl; have hcz14_5 : w13.cell? ⟨gb674, 5, none⟩ = some (.bool a0_5) := (blk_cell BK674.out 5).trans rfl; have hcz14_6 : w13.cell? ⟨gb674, 6, none⟩ = some (.slice A0_6 l0_6.length c0_6) := (blk_cell BK674.out 6).trans rfl; have hfz14_0 := blk_frozen BK674.out 0; have hfz14_1 := blk_frozen BK674.out 1; have hfz14_2 := blk_frozen BK674.out 2; have hfz14_3 := blk_frozen BK674.out 3; have hfz14_4 := blk_frozen BK674.out 4; have hfz14_5 := blk_frozen BK674.out 5; have hfz14_6 := blk_frozen BK674.out 6) | (go_at_call 28; (with_reducible refine (path_Right.calls a0_0 a0_1 a0_2 a0_3 a0_4 a0_5 _ _ l0_6 t677 _ ?side1 ?side2 A11.out).mono ?_); (case side1 => repeat (first | exact (Kd.C_below HR0_6.out HB.out) | (with_reducible refine Kd.C_alloc ?_ _) | (with_reducible refine Kd.C_drewN ?_ _) | (with_reducible refine Kd.C_drew ?_))); (case side2 => exact HC0_6.out); rintro e w15 ⟨rfl, hb⟩; have n0_ := Aside0.mk (blk_below (g := gb674) (o := .cells #[.string a0_0, .int .i64 a0_1, .string a0_2, .int .i64 a0_3, .bool a0_4, .bool a0_5, .slice A0_6 l0_6.length c0_6] 26 (0, 0)) (by (with_reducible repeat (first | refine blk_drewN ?_ _ | refine blk_drew ?_ | refine blk_alloc ?_ _)); exact BK674.out) hb); have n1_ := Aside0.mk (below_step (by repeat (first | (with_reducible first | exact HB.out | apply below_alloc | apply pw_below_drewN | apply below_drew1 | refine below_set ?_ GE674.out) | exact HB.out)) hb); clear BK674; clear HB; have BK674 := n0_; have HB := n1_; clear n0_ n1_; (try clear hb); (try clear hb2); (try clear hk); (try clear hi)))
    go_meet
    case rel => exact ⟨_, (!t677), (by first | rfl | (simp; done) | (simp [*]; done) | (simp; exact (fun l : List UInt8 => (by cases l <;> rfl : l.isEmpty = !(l != []))) _)), H', ⟨by first | omega | exact Nat.le_refl _⟩, ⟨by (with_reducible repeat (first | refine blk_drewN ?_ _ | refine blk_drew ?_ | refine blk_alloc ?_ _)); exact BK674.out⟩, ⟨by repeat (first | (with_reducible first | exact HB.out | apply below_alloc | apply pw_below_drewN | apply below_drew1 | refine below_set ?_ GE674.out) | exact HB.out)⟩⟩
  case rest =>
   clear HC4
   try clear c1
   try clear p2
   try clear c3
   try clear c8
   try clear c14
   try clear c15
   try clear hcz12_0
   try clear hcz12_1
   try clear hcz12_2
   try clear hcz12_3
   try clear hcz12_4
   try clear hcz12_5
   try clear hcz12_6
   try clear hcz14_0
   try clear hcz14_1
   try clear hcz14_2
   try clear hcz14_3
   try clear hcz14_4
   try clear hcz14_5
   try clear hcz14_6
   try clear hcz9_0
   try clear hcz9_1
   try clear hcz9_2
   try clear hcz9_3
   try clear hcz9_4
   try clear hcz9_5
   try clear hcz9_6
   try clear hfz12_0
   try clear hfz12_1
   try clear hfz12_2
   try clear hfz12_3
   try clear hfz12_4
   try clear hfz12_5
   try clear hfz12_6
   try clear hfz14_0
   try clear hfz14_1
   try clear hfz14_2
   try clear hfz14_3
   try clear hfz14_4
   try clear hfz14_5
   try clear hfz14_6
   try clear hfz9_0
   try clear hfz9_1
   try clear hfz9_2
   try clear hfz9_3
   try clear hfz9_4
   try clear hfz9_5
   try clear hfz9_6
   obtain ⟨kq, x13_3, rfl, HA, HJ3, BK674, HB⟩ := hcut
   cases kq with
   | zero => exact absurd HA.out (by simp [squelchlaw05_PathTexts.j0])
   | succ kj3 =>
    have H := HA.out
    clear HA
    simp only [squelchlaw05_PathTexts.j0] at H
    by_cases c16 : x13_3 = true
    ·subst c16
     have H1 : (some true) = some r := by rw [if_pos rfl] at H; exact H
     clear H
     have H := H1
     clear H1
     obtain rfl := Option.some.inj H
     go_wp2
     go_ret
     exact ⟨by first | rfl | (simp [errW_none, errW_some] <;> rfl) | (simp [*, errW_none, errW_some] <;> rfl), by repeat (first | (with_reducible first | exact HB.out | apply below_alloc | apply pw_below_drewN | apply below_drew1 | refine below_set ?_ GE674.out) | exact HB.out)⟩
    ·replace c16 := Bool.eq_false_iff.mpr c16
     subst c16
     have H1 : ((path_Text.f a0_0 a0_1 a0_2 a0_3 a0_4 a0_5 l0_6).bind fun t678 => ((path_Parse.f kj3 t678).bind fun bt679 => (if bt679.2.2.2.2.2.2.2 = 0 then ((squelchlaw05_Plain.f kj3 bt679.1 bt679.2.1 bt679.2.2.1 bt679.2.2.2.1 bt679.2.2.2.2.1 bt679.2.2.2.2.2.1 bt679.2.2.2.2.2.2.1).bind fun t690 => ((squelchlaw05_Plain.f kj3 a0_0 a0_1 a0_2 a0_3 true false l0_6).bind fun t693 => ((squelchref05_Same.f kj3 t690 t693).bind fun t696 => (if t696 = true then ((path_Text.f bt679.1 bt679.2.1 bt679.2.2.1 bt679.2.2.2.1 bt679.2.2.2.2.1 bt679.2.2.2.2.2.1 bt679.2.2.2.2.2.2.1).bind fun t697 => ((path_Text.f a0_0 a0_1 a0_2 a0_3 true false l0_6).bind fun t698 => (some (t697.toList == t698.toList)))) else (some false))))) else (some false)))) = some r := by rw [if_neg (show ¬ (false = true) by decide)] at H; exact H
     clear H
     have H := H1
     clear H1
     replace H := Option.bind_eq_some_iff.mp H
     obtain ⟨t678, A170, H⟩ := H
     replace H : ((path_Parse.f kj3 t678).bind fun bt679 => (if bt679.2.2.2.2.2.2.2 = 0 then ((squelchlaw05_Plain.f kj3 bt679.1 bt679.2.1 bt679.2.2.1 bt679.2.2.2.1 bt679.2.2.2.2.1 bt679.2.2.2.2.2.1 bt679.2.2.2.2.2.2.1).bind fun t690 => ((squelchlaw05_Plain.f kj3 a0_0 a0_1 a0_2 a0_3 true false l0_6).bind fun t693 => ((squelchref05_Same.f kj3 t690 t693).bind fun t696 => (if t696 = true then ((path_Text.f bt679.1 bt679.2.1 bt679.2.2.1 bt679.2.2.2.1 bt679.2.2.2.2.1 bt679.2.2.2.2.2.1 bt679.2.2.2.2.2.2.1).bind fun t697 => ((path_Text.f a0_0 a0_1 a0_2 a0_3 true false l0_6).bind fun t698 => (some (t697.toList == t698.toList)))) else (some false))))) else (some false))) = some r := H
     have A17 := Aside0.mk A170
     clear A170
     replace H := Option.bind_eq_some_iff.mp H
     obtain ⟨⟨t679, t680, t681, t682, t683, t684, t685, t688⟩, A180, H⟩ := H
     replace H : (if t688 = 0 then ((squelchlaw05_Plain.f kj3 t679 t680 t681 t682 t683 t684 t685).bind fun t690 => ((squelchlaw05_Plain.f kj3 a0_0 a0_1 a0_2 a0_3 true false l0_6).bind fun t693 => ((squelchref05_Same.f kj3 t690 t693).bind fun t696 => (if t696 = true then ((path_Text.f t679 t680 t681 t682 t683 t684 t685).bind fun t697 => ((path_Text.f a0_0 a0_1 a0_2 a0_3 true false l0_6).bind fun t698 => (some (t697.toList == t698.toList)))) else (some false))))) else (some false)) = some r := H
     have A18 := Aside0.mk A180
     clear A180
     by_cases c19 : t688 = 0
     ·rw [if_pos c19] at H
      have c19b0 : (t688 == 0) = true := beq_iff_eq.mpr c19
      have c19b1 : (t688 != 0) = false := bne_eq_false_iff_eq.mpr c19
      clear c19
      replace H := Option.bind_eq_some_iff.mp H
      obtain ⟨t690, A200, H⟩ := H
      replace H : ((squelchlaw05_Plain.f kj3 a0_0 a0_1 a0_2 a0_3 true false l0_6).bind fun t693 => ((squelchref05_Same.f kj3 t690 t693).bind fun t696 => (if t696 = true then ((path_Text.f t679 t680 t681 t682 t683 t684 t685).bind fun t697 => ((path_Text.f a0_0 a0_1 a0_2 a0_3 true false l0_6).bind fun t698 => (some (t697.toList == t698.toList)))) else (some false)))) = some r := H
      have A20 := Aside0.mk A200
      clear A200
      replace H := Option.bind_eq_some_iff.mp H
      obtain ⟨t693, A210, H⟩ := H
      replace H : ((squelchref05_Same.f kj3 t690 t693).bind fun t696 => (if t696 = true then ((path_Text.f t679 t680 t681 t682 t683 t684 t685).bind fun t697 => ((path_Text.f a0_0 a0_1 a0_2 a0_3 true false l0_6).bind fun t698 => (some (t697.toList == t698.toList)))) else (some false))) = some r := H
      have A21 := Aside0.mk A210
      clear A210
      replace H := Option.bind_eq_some_iff.mp H
      obtain ⟨t696, A220, H⟩ := H
      replace H : (if t696 = true then ((path_Text.f t679 t680 t681 t682 t683 t684 t685).bind fun t697 => ((path_Text.f a0_0 a0_1 a0_2 a0_3 true false l0_6).bind fun t698 => (some (t697.toList == t698.toList)))) else (some false)) = some r := H
      have A22 := Aside0.mk A220
      clear A220
      by_cases c23 : t696 = true
      ·subst c23
       have H1 : ((path_Text.f t679 t680 t681 t682 t683 t684 t685).bind fun t697 => ((path_Text.f a0_0 a0_1 a0_2 a0_3 true false l0_6).bind fun t698 => (some (t697.toList == t698.toList)))) = some r := by rw [if_pos rfl] at H; exact H
       clear H
       have H := H1
       clear H1
       replace H := Option.bind_eq_some_iff.mp H
       obtain ⟨t697, A240, H⟩ := H
       replace H : ((path_Text.f a0_0 a0_1 a0_2 a0_3 true false l0_6).bind fun t698 => (some (t697.toList == t698.toList))) = some r := H
       have A24 := Aside0.mk A240
       clear A240
       replace H := Option.bind_eq_some_iff.mp H
       obtain ⟨t698, A250, H⟩ := H
       replace H : (some (t697.toList == t698.toList)) = some r := H
       have A25 := Aside0.mk A250
       clear A250
       obtain rfl := Option.some.inj H
       have hcz26_0 : wc.cell? ⟨gb674, 0, none⟩ = some (.string a0_0) := (blk_cell BK674.out 0).trans rfl
       have hcz26_1 : wc.cell? ⟨gb674, 1, none⟩ = some (.int .i64 a0_1) := (blk_cell BK674.out 1).trans rfl
       have hcz26_2 : wc.cell? ⟨gb674, 2, none⟩ = some (.string a0_2) := (blk_cell BK674.out 2).trans rfl
       have hcz26_3 : wc.cell? ⟨gb674, 3, none⟩ = some (.int .i64 a0_3) := (blk_cell BK674.out 3).trans rfl
       have hcz26_4 : wc.cell? ⟨gb674, 4, none⟩ = some (.bool a0_4) := (blk_cell BK674.out 4).trans rfl
       have hcz26_5 : wc.cell? ⟨gb674, 5, none⟩ = some (.bool a0_5) := (blk_cell BK674.out 5).trans rfl
       have hcz26_6 : wc.cell? ⟨gb674, 6, none⟩ = some (.slice A0_6 l0_6.length c0_6) := (blk_cell BK674.out 6).trans rfl
       have hfz26_0 := blk_frozen BK674.out 0
       have hfz26_1 := blk_frozen BK674.out 1
       have hfz26_2 := blk_frozen BK674.out 2
       have hfz26_3 := blk_frozen BK674.out 3
       have hfz26_4 := blk_frozen BK674.out 4
       have hfz26_5 := blk_frozen BK674.out 5
       have hfz26_6 := blk_frozen BK674.out 6
       try go_wp2_with (first | ((with_reducible refine gate_callee (f := 33) rfl ?_); refine goesL_ (some 16) rfl rfl Tryd.func33 (by kernel_rfl) rfl #[.agg #[.string a0_0, .int .i64 a0_1, .string a0_2, .int .i64 a0_3, .bool a0_4, .bool a0_5, .slice A0_6 l0_6.length c0_6]] rfl (by (try simp only [List.map_toArray, List.map_cons, List.map_nil]); first | done | rfl | (simp only [List.length_drop, List.length_take]; rfl)) ?_; (with_reducible refine (path_Text.calls a0_0 a0_1 a0_2 a0_3 a0_4 a0_5 _ _ l0_6 t678 _ ?side1 ?side2 A17.out).mono ?_); (case side1 => repeat (first | exact (Kd.C_below HR0_6.out HB.out) | (with_reducible refine Kd.C_alloc ?_ _) | (with_reducible refine Kd.C_drewN ?_ _) | (with_reducible refine Kd.C_drew ?_))); (case side2 => exact HC0_6.out); rintro e w27 ⟨rfl, hb⟩; refine ⟨_, rfl, ?_⟩; have n0_ := Aside0.mk (blk_below (g := gb674) (o := .cells #[.string a0_0, .int .i64 a0_1, .string a0_2, .int .i64 a0_3, .bool a0_4, .bool a0_5, .slice A0_6 l0_6.length c0_6] 26 (0, 0)) (by (with_reducible repeat (first | refine blk_drewN ?_ _ | refine blk_drew ?_ | refine blk_alloc ?_ _)); exact BK674.out) hb); have n1_ := Aside0.mk (below_step (by repeat (first | (with_reducible first | exact HB.out | apply below_alloc | apply pw_below_drewN | apply below_drew1 | refine below_set ?_ GE674.out) | exact HB.out)) hb); clear BK674; clear HB; have BK674 := n0_; have HB := n1_; clear n0_ n1_; (try clear hb); (try clear hb2); (try clear hk); (try clear hi)) | ((with_reducible refine gate_callee (f := 56) rfl ?_); refine goesL_ (some 17) rfl rfl Tryd.func56 (by kernel_rfl) rfl #[.string t678] rfl (by (try simp only [List.map_toArray, List.map_cons, List.map_nil]); first | done | rfl | (simp only [List.length_drop, List.length_take]; rfl)) ?_; (with_reducible refine (path_Parse.calls kj3 t678 t679 t680 t681 t682 t683 t684 t685 t688 _ ?side1 A18.out).mono ?_); (case side1 => exact EnvW.below HE.out (by repeat (first | (with_reducible first | exact HB.out | apply below_alloc | apply pw_below_drewN | apply below_drew1 | refine below_set ?_ GE674.out) | exact HB.out))); rintro e w28 ⟨v686, rfl, ho0, hb⟩; refine ⟨_, rfl, ?_⟩; have n0_ := Aside0.mk (Kd.R_lower ho0 (below_size (by repeat (first | (with_reducible first | exact HB.out | apply below_alloc | apply pw_below_drewN | apply below_drew1 | refine below_set ?_ GE674.out) | exact HB.out)))); have n1_ := Aside0.mk (blk_below (g := gb674) (o := .cells #[.string a0_0, .int .i64 a0_1, .string a0_2, .int .i64 a0_3, .bool a0_4, .bool a0_5, .slice A0_6 l0_6.length c0_6] 26 (0, 0)) (by (with_reducible repeat (first | refine blk_drewN ?_ _ | refine blk_drew ?_ | refine blk_alloc ?_ _)); exact BK674.out) hb); have n2_ := Aside0.mk (below_step (by repeat (first | (with_reducible first | exact HB.out | apply below_alloc | apply pw_below_drewN | apply below_drew1 | refine below_set ?_ GE674.out) | exact HB.out)) hb); clear BK674; clear HB; have HO687 := n0_; have BK674 := n1_; have HB := n2_; clear n0_ n1_ n2_; (try clear hb); (try clear hb2); (try clear hk); (try clear hi); (try clear ho0)) | ((with_reducible refine gate_dst (N := 3) rfl ?_); refine box_event ?hg (N := 3) ?hd (cs := #[.string (⟨#[]⟩ : ByteArray), .int .i64 0, .string (⟨#[]⟩ : ByteArray), .int .i64 0, .bool false, .bool false, .slice none 0 0]) (t := 26) ?hr ?_; (case hd => rfl); (case hg => rfl); (case hr => first | (go_simp; done) | (go_simp; rfl)); intro gb689 hg w29 hbox hb; have n0_ := Aside0.mk (Kd.R_below (by (with_reducible repeat (first | apply Kd.R_alloc | apply Kd.R_drewN | apply Kd.R_drew)); exact HO687.out) hb); have n1_ := Aside0.mk (blk_below (g := gb674) (o := .cells #[.string a0_0, .int .i64 a0_1, .string a0_2, .int .i64 a0_3, .bool a0_4, .bool a0_5, .slice A0_6 l0_6.length c0_6] 26 (0, 0)) (by (with_reducible repeat (first | refine blk_drewN ?_ _ | refine blk_drew ?_ | refine blk_alloc ?_ _)); exact BK674.out) hb); have n2_ := Aside0.mk (below_step (by repeat (first | (with_reducible first | exact HB.out | apply below_alloc | apply pw_below_drewN | apply below_drew1 | refine below_set ?_ GE674.out) | exact HB.out)) hb); have n3_ := Aside0.mk (hbox); have n4_ := Aside0.mk ((by rw [hg]; exact (below_size (by repeat (first | (with_reducible first | exact HB.out | apply below_alloc | apply pw_below_drewN | apply below_drew1 | refine below_set ?_ GE674.out) | exact HB.out))) : w.heap.size ≤ gb689)); have n5_ := Aside0.mk ((by rw [hg]; exact (below_size (by repeat (first | (with_reducible first | exact HB.out | apply below_alloc | apply pw_below_drewN | apply below_drew1 | refine below_set ?_ GE674.out) | exact HB.out))) : w.heap.size ≤ gb689)); have n6_ := Aside0.mk ((by rw [hg]; exact Nat.ne_of_lt (blk_lt (g := gb674) (o := .cells #[.string a0_0, .int .i64 a0_1, .string a0_2, .int .i64 a0_3, .bool a0_4, .bool a0_5, .slice A0_6 l0_6.length c0_6] 26 (0, 0)) (by (with_reducible repeat (first | refine blk_drewN ?_ _ | refine blk_drew ?_ | refine blk_alloc ?_ _)); exact BK674.out)) : gb674 ≠ gb689)); have n7_ := Aside0.mk ((by rw [hg]; exact Nat.ne_of_gt (blk_lt (g := gb674) (o := .cells #[.string a0_0, .int .i64 a0_1, .string a0_2, .int .i64 a0_3, .bool a0_4, .bool a0_5, .slice A0_6 l0_6.length c0_6] 26 (0, 0)) (by (with_reducible repeat (first | refine blk_drewN ?_ _ | refine blk_drew ?_ | refine blk_alloc ?_ _)); exact BK674.out)) : gb689 ≠ gb674)); clear HO687; clear BK674; clear HB; have HO687 := n0_; have BK674 := n1_; have HB := n2_; have BK689 := n3_; have GW689 := n4_; have GE689 := n5_; have NB674_689 := n6_; have NB689_674 := n7_; clear n0_ n1_ n2_ n3_ n4_ n5_ n6_ n7_; clear hb hbox hg; have hnb30 := NB689_674.out; have hnc30 := NB674_689.out; have hcz31_0 : w29.cell? ⟨gb689, 0, none⟩ = some (.string (⟨#[]⟩ : ByteArray)) := (blk_cell BK689.out 0).trans rfl; have hcz31_1 : w29.cell? ⟨gb689, 1, none⟩ = some (.int .i64 0) := (blk_cell BK689.out 1).trans rfl; have hcz31_2 : w29.cell? ⟨gb689, 2, none⟩ = some (.string (⟨#[]⟩ : ByteArray)) := (blk_cell BK689.out 2).trans rfl; have hcz31_3 : w29.cell? ⟨gb689, 3, none⟩ = some (.int .i64 0) := (blk_cell BK689.out 3).trans rfl; have hcz31_4 : w29.cell? ⟨gb689, 4, none⟩ = some (.bool false) := (blk_cell BK689.out 4).trans rfl; have hcz31_5 : w29.cell? ⟨gb689, 5, none⟩ = some (.bool false) := (blk_cell BK689.out 5).trans rfl; have hcz31_6 : w29.cell? ⟨gb689, 6, none⟩ = some (.slice none 0 0) := (blk_cell BK689.out 6).trans rfl; have hfz31_0 := blk_frozen BK689.out 0; have hfz31_1 := blk_frozen BK689.out 1; have hfz31_2 := blk_frozen BK689.out 2; have hfz31_3 := blk_frozen BK689.out 3; have hfz31_4 := blk_frozen BK689.out 4; have hfz31_5 := blk_frozen BK689.out 5; have hfz31_6 := blk_frozen BK689.out 6; obtain ⟨Ao32, co32, eo32⟩ := Kd.R_slice HO687.out; subst eo32; have hcz33_0 : w29.cell? ⟨gb674, 0, none⟩ = some (.string a0_0) := (blk_cell BK674.out 0).trans rfl; have hcz33_1 : w29.cell? ⟨gb674, 1, none⟩ = some (.int .i64 a0_1) := (blk_cell BK674.out 1).trans rfl; have hcz33_2 : w29.cell? ⟨gb674, 2, none⟩ = some (.string a0_2) := (blk_cell BK674.out 2).trans rfl; have hcz33_3 : w29.cell? ⟨gb674, 3, none⟩ = some (.int .i64 a0_3) := (blk_cell BK674.out 3).trans rfl; have hcz33_4 : w29.cell? ⟨gb674, 4, none⟩ = some (.bool a0_4) := (blk_cell BK674.out 4).trans rfl; have hcz33_5 : w29.cell? ⟨gb674, 5, none⟩ = some (.bool a0_5) := (blk_cell BK674.out 5).trans rfl; have hcz33_6 : w29.cell? ⟨gb674, 6, none⟩ = some (.slice A0_6 l0_6.length c0_6) := (blk_cell BK674.out 6).trans rfl; have hfz33_0 := blk_frozen BK674.out 0; have hfz33_1 := blk_frozen BK674.out 1; have hfz33_2 := blk_frozen BK674.out 2; have hfz33_3 := blk_frozen BK674.out 3; have hfz33_4 := blk_frozen BK674.out 4; have hfz33_5 := blk_frozen BK674.out 5; have hfz33_6 := blk_frozen BK674.out 6))
       have n0_ : Aside0 (Kd.R k93 93 (((((((((w29.setCell ⟨gb689, 0, none⟩ (.string t679)).setCell ⟨gb689, 1, none⟩ (.int .i64 t680)).setCell ⟨gb689, 2, none⟩ (.string t681)).setCell ⟨gb689, 3, none⟩ (.int .i64 t682)).setCell ⟨gb689, 4, none⟩ (.bool t683)).setCell ⟨gb689, 5, none⟩ (.bool t684)).setCell ⟨gb689, 6, none⟩ (.slice Ao32 t685.length co32)).setCell ⟨gb674, 4, none⟩ (.bool true)).setCell ⟨gb674, 5, none⟩ (.bool false)) w.heap.size (fun _ => True) (.slice Ao32 t685.length co32) t685) := ⟨by (with_reducible repeat (first | apply Kd.R_alloc | apply Kd.R_drewN | apply Kd.R_drew)); exact Kd.R_mono (Kd.R_far (p := ⟨gb674, 5, none⟩) (Kd.R_far (p := ⟨gb674, 4, none⟩) (Kd.R_far (p := ⟨gb689, 6, none⟩) (Kd.R_far (p := ⟨gb689, 5, none⟩) (Kd.R_far (p := ⟨gb689, 4, none⟩) (Kd.R_far (p := ⟨gb689, 3, none⟩) (Kd.R_far (p := ⟨gb689, 2, none⟩) (Kd.R_far (p := ⟨gb689, 1, none⟩) (Kd.R_far (p := ⟨gb689, 0, none⟩) (Kd.R_types (Kd.R_types HO687.out BK689.out (by decide)) BK674.out (by decide)) (fun _ hk => hk.1.2) (.string t679)) (fun _ hk => hk.1.2) (.int .i64 t680)) (fun _ hk => hk.1.2) (.string t681)) (fun _ hk => hk.1.2) (.int .i64 t682)) (fun _ hk => hk.1.2) (.bool t683)) (fun _ hk => hk.1.2) (.bool t684)) (fun _ hk => hk.1.2) (.slice Ao32 t685.length co32)) (fun _ hk => hk.2) (.bool true)) (fun _ hk => hk.2) (.bool false)) (fun _ hk => trivial)⟩
       have n1_ : Aside0 ((((((((((w29.setCell ⟨gb689, 0, none⟩ (.string t679)).setCell ⟨gb689, 1, none⟩ (.int .i64 t680)).setCell ⟨gb689, 2, none⟩ (.string t681)).setCell ⟨gb689, 3, none⟩ (.int .i64 t682)).setCell ⟨gb689, 4, none⟩ (.bool t683)).setCell ⟨gb689, 5, none⟩ (.bool t684)).setCell ⟨gb689, 6, none⟩ (.slice Ao32 t685.length co32)).setCell ⟨gb674, 4, none⟩ (.bool true)).setCell ⟨gb674, 5, none⟩ (.bool false)).heap[gb674]? = some (.cells #[.string a0_0, .int .i64 a0_1, .string a0_2, .int .i64 a0_3, .bool true, .bool false, .slice A0_6 l0_6.length c0_6] 26 (0, 0))) := ⟨by (with_reducible repeat (first | refine blk_drewN ?_ _ | refine blk_drew ?_ | refine blk_alloc ?_ _)); refine blk_put (cs := #[.string a0_0, .int .i64 a0_1, .string a0_2, .int .i64 a0_3, .bool true, .bool a0_5, .slice A0_6 l0_6.length c0_6]) ?_ 5 _ rfl; (with_reducible repeat (first | refine blk_drewN ?_ _ | refine blk_drew ?_ | refine blk_alloc ?_ _)); refine blk_put (cs := #[.string a0_0, .int .i64 a0_1, .string a0_2, .int .i64 a0_3, .bool a0_4, .bool a0_5, .slice A0_6 l0_6.length c0_6]) ?_ 4 _ rfl; (with_reducible repeat (first | refine blk_drewN ?_ _ | refine blk_drew ?_ | refine blk_alloc ?_ _)); refine blk_far ?_ NB674_689.out _; (with_reducible repeat (first | refine blk_drewN ?_ _ | refine blk_drew ?_ | refine blk_alloc ?_ _)); refine blk_far ?_ NB674_689.out _; (with_reducible repeat (first | refine blk_drewN ?_ _ | refine blk_drew ?_ | refine blk_alloc ?_ _)); refine blk_far ?_ NB674_689.out _; (with_reducible repeat (first | refine blk_drewN ?_ _ | refine blk_drew ?_ | refine blk_alloc ?_ _)); refine blk_far ?_ NB674_689.out _; (with_reducible repeat (first | refine blk_drewN ?_ _ | refine blk_drew ?_ | refine blk_alloc ?_ _)); refine blk_far ?_ NB674_689.out _; (with_reducible repeat (first | refine blk_drewN ?_ _ | refine blk_drew ?_ | refine blk_alloc ?_ _)); refine blk_far ?_ NB674_689.out _; (with_reducible repeat (first | refine blk_drewN ?_ _ | refine blk_drew ?_ | refine blk_alloc ?_ _)); refine blk_far ?_ NB674_689.out _; (with_reducible repeat (first | refine blk_drewN ?_ _ | refine blk_drew ?_ | refine blk_alloc ?_ _)); exact BK674.out⟩
       have n2_ : Aside0 ((((((((((w29.setCell ⟨gb689, 0, none⟩ (.string t679)).setCell ⟨gb689, 1, none⟩ (.int .i64 t680)).setCell ⟨gb689, 2, none⟩ (.string t681)).setCell ⟨gb689, 3, none⟩ (.int .i64 t682)).setCell ⟨gb689, 4, none⟩ (.bool t683)).setCell ⟨gb689, 5, none⟩ (.bool t684)).setCell ⟨gb689, 6, none⟩ (.slice Ao32 t685.length co32)).setCell ⟨gb674, 4, none⟩ (.bool true)).setCell ⟨gb674, 5, none⟩ (.bool false)).heap[gb689]? = some (.cells #[.string t679, .int .i64 t680, .string t681, .int .i64 t682, .bool t683, .bool t684, .slice Ao32 t685.length co32] 26 (0, 0))) := ⟨by (with_reducible repeat (first | refine blk_drewN ?_ _ | refine blk_drew ?_ | refine blk_alloc ?_ _)); refine blk_far ?_ NB689_674.out _; (with_reducible repeat (first | refine blk_drewN ?_ _ | refine blk_drew ?_ | refine blk_alloc ?_ _)); refine blk_far ?_ NB689_674.out _; (with_reducible repeat (first | refine blk_drewN ?_ _ | refine blk_drew ?_ | refine blk_alloc ?_ _)); refine blk_put (cs := #[.string t679, .int .i64 t680, .string t681, .int .i64 t682, .bool t683, .bool t684, .slice none 0 0]) ?_ 6 _ rfl; (with_reducible repeat (first | refine blk_drewN ?_ _ | refine blk_drew ?_ | refine blk_alloc ?_ _)); refine blk_put (cs := #[.string t679, .int .i64 t680, .string t681, .int .i64 t682, .bool t683, .bool false, .slice none 0 0]) ?_ 5 _ rfl; (with_reducible repeat (first | refine blk_drewN ?_ _ | refine blk_drew ?_ | refine blk_alloc ?_ _)); refine blk_put (cs := #[.string t679, .int .i64 t680, .string t681, .int .i64 t682, .bool false, .bool false, .slice none 0 0]) ?_ 4 _ rfl; (with_reducible repeat (first | refine blk_drewN ?_ _ | refine blk_drew ?_ | refine blk_alloc ?_ _)); refine blk_put (cs := #[.string t679, .int .i64 t680, .string t681, .int .i64 0, .bool false, .bool false, .slice none 0 0]) ?_ 3 _ rfl; (with_reducible repeat (first | refine blk_drewN ?_ _ | refine blk_drew ?_ | refine blk_alloc ?_ _)); refine blk_put (cs := #[.string t679, .int .i64 t680, .string (⟨#[]⟩ : ByteArray), .int .i64 0, .bool false, .bool false, .slice none 0 0]) ?_ 2 _ rfl; (with_reducible repeat (first | refine blk_drewN ?_ _ | refine blk_drew ?_ | refine blk_alloc ?_ _)); refine blk_put (cs := #[.string t679, .int .i64 0, .string (⟨#[]⟩ : ByteArray), .int .i64 0, .bool false, .bool false, .slice none 0 0]) ?_ 1 _ rfl; (with_reducible repeat (first | refine blk_drewN ?_ _ | refine blk_drew ?_ | refine blk_alloc ?_ _)); refine blk_put (cs := #[.string (⟨#[]⟩ : ByteArray), .int .i64 0, .string (⟨#[]⟩ : ByteArray), .int .i64 0, .bool false, .bool false, .slice none 0 0]) ?_ 0 _ rfl; (with_reducible repeat (first | refine blk_drewN ?_ _ | refine blk_drew ?_ | refine blk_alloc ?_ _)); exact BK689.out⟩
       have n3_ : Aside0 (Below w.heap.size w (((((((((w29.setCell ⟨gb689, 0, none⟩ (.string t679)).setCell ⟨gb689, 1, none⟩ (.int .i64 t680)).setCell ⟨gb689, 2, none⟩ (.string t681)).setCell ⟨gb689, 3, none⟩ (.int .i64 t682)).setCell ⟨gb689, 4, none⟩ (.bool t683)).setCell ⟨gb689, 5, none⟩ (.bool t684)).setCell ⟨gb689, 6, none⟩ (.slice Ao32 t685.length co32)).setCell ⟨gb674, 4, none⟩ (.bool true)).setCell ⟨gb674, 5, none⟩ (.bool false))) := ⟨by repeat (first | (with_reducible first | exact HB.out | apply below_alloc | apply pw_below_drewN | apply below_drew1 | refine below_set ?_ GE674.out | refine below_set ?_ GE689.out) | exact HB.out)⟩
       (try clear HO687)
       (try clear BK674)
       (try clear BK689)
       (try clear HB)
       generalize (((((((((w29.setCell ⟨gb689, 0, none⟩ (.string t679)).setCell ⟨gb689, 1, none⟩ (.int .i64 t680)).setCell ⟨gb689, 2, none⟩ (.string t681)).setCell ⟨gb689, 3, none⟩ (.int .i64 t682)).setCell ⟨gb689, 4, none⟩ (.bool t683)).setCell ⟨gb689, 5, none⟩ (.bool t684)).setCell ⟨gb689, 6, none⟩ (.slice Ao32 t685.length co32)).setCell ⟨gb674, 4, none⟩ (.bool true)).setCell ⟨gb674, 5, none⟩ (.bool false)) = w34 at n0_ n1_ n2_ n3_ ⊢
       have HO687 := n0_
       have BK674 := n1_
       have BK689 := n2_
       have HB := n3_
       clear n0_ n1_ n2_ n3_
       have n0_ := Aside0.mk (Kd.R_drew HO687.out)
       have n1_ := Aside0.mk (blk_drew BK674.out)
       have n2_ := Aside0.mk (blk_drew BK689.out)
       have n3_ := Aside0.mk (below_drew1 HB.out)
       clear HO687
       clear BK674
       clear BK689
       clear HB
       have HO687 := n0_
       have BK674 := n1_
       have BK689 := n2_
       have HB := n3_
       clear n0_ n1_ n2_ n3_
       refine start_ (n := 17) (S := fun w' => w'.cell? ⟨gb689, 0, none⟩ = some (.string t679) ∧ w'.cell? ⟨gb689, 1, none⟩ = some (.int .i64 t680) ∧ w'.cell? ⟨gb689, 2, none⟩ = some (.string t681) ∧ w'.cell? ⟨gb689, 3, none⟩ = some (.int .i64 t682) ∧ w'.cell? ⟨gb689, 4, none⟩ = some (.bool t683) ∧ w'.cell? ⟨gb689, 5, none⟩ = some (.bool t684) ∧ w'.cell? ⟨gb689, 6, none⟩ = some (.slice Ao32 t685.length co32) ∧ w'.cell? ⟨gb674, 0, none⟩ = some (.string a0_0) ∧ w'.cell? ⟨gb674, 1, none⟩ = some (.int .i64 a0_1) ∧ w'.cell? ⟨gb674, 2, none⟩ = some (.string a0_2) ∧ w'.cell? ⟨gb674, 3, none⟩ = some (.int .i64 a0_3) ∧ w'.cell? ⟨gb674, 4, none⟩ = some (.bool true) ∧ w'.cell? ⟨gb674, 5, none⟩ = some (.bool false) ∧ w'.cell? ⟨gb674, 6, none⟩ = some (.slice A0_6 l0_6.length c0_6)) (ds := []) #[false, false, false, false, false, false, false, false, false, false, false, false, false, false, false, false, false] (by kernel_rfl) rfl rfl ⟨(blk_cell BK689.out 0).trans rfl, (blk_cell BK689.out 1).trans rfl, (blk_cell BK689.out 2).trans rfl, (blk_cell BK689.out 3).trans rfl, (blk_cell BK689.out 4).trans rfl, (blk_cell BK689.out 5).trans rfl, (blk_cell BK689.out 6).trans rfl, (blk_cell BK674.out 0).trans rfl, (blk_cell BK674.out 1).trans rfl, (blk_cell BK674.out 2).trans rfl, (blk_cell BK674.out 3).trans rfl, (blk_cell BK674.out 4).trans rfl, (blk_cell BK674.out 5).trans rfl, (blk_cell BK674.out 6).trans rfl⟩ (fun hHeld => ?_); refine with_tabW squelchlaw05_PathTexts.tab7 squelchlaw05_PathTexts.bits7 (fun HT_ HW_ => ?_)
       generalize w34.drew = w35 at HO687 BK674 BK689 HB hHeld ⊢
       refine pure_ (i := 0) (N := some 22) (v := ?_) (a' := ?_) #[true, false, false, false, false, false, false, false, false, false, false, false, false, false, false, false, false] rfl rfl (any_of HT_.out (by kernel_rfl)) (fun _ _ _ h => h) (Or.inl ⟨by rfl, ?_⟩) ?_ ?_
       rotate_left
       ·intro w'
        go_simp
        with_reducible rfl
       rotate_left
       ·simp only [Act.put, List.setIfInBounds_toArray, List.set_cons_zero, List.set_cons_succ, i64_w, i32_w]
        rfl
       refine pure_ (i := 1) (N := some 23) (v := ?_) (a' := ?_) #[true, true, false, false, false, false, false, false, false, false, false, false, false, false, false, false, false] rfl rfl (any_of HT_.out (by kernel_rfl)) (fun _ _ _ h => h) (Or.inl ⟨by rfl, ?_⟩) ?_ ?_
       rotate_left
       ·intro w'
        go_simp
        with_reducible rfl
       rotate_left
       ·simp only [Act.put, List.setIfInBounds_toArray, List.set_cons_zero, List.set_cons_succ, i64_w, i32_w]
        rfl
       refine pure_ (i := 2) (N := some 24) (v := ?_) (a' := ?_) #[true, true, true, false, false, false, false, false, false, false, false, false, false, false, false, false, false] rfl rfl (any_of HT_.out (by kernel_rfl)) (fun _ _ _ h => h) (Or.inl ⟨by rfl, ?_⟩) ?_ ?_
       rotate_left
       ·intro w'
        go_simp
        with_reducible rfl
       rotate_left
       ·simp only [Act.put, List.setIfInBounds_toArray, List.set_cons_zero, List.set_cons_succ, i64_w, i32_w]
        rfl
       refine take_ (i := 3) (N := some 25) (v := ?_) (a' := ?_) #[true, true, true, true, false, false, false, false, false, false, false, false, false, false, false, false, false] rfl rfl (take_ofW HT_.out HW_.out (by kernel_rfl)) (fun _ _ _ h => h) (Or.inl ⟨by rfl, ?_⟩) hHeld ?_ ?_
       rotate_left
       ·rintro w' ⟨s0, s1, s2, s3, s4, s5, s6, s7, s8, s9, s10, s11, s12, s13⟩
        go_simp
        with_reducible rfl
       rotate_left
       ·simp only [Act.put, List.setIfInBounds_toArray, List.set_cons_zero, List.set_cons_succ, i64_w, i32_w]
        rfl
       refine take_ (i := 5) (N := some 27) (v := ?_) (a' := ?_) #[true, true, true, true, false, true, false, false, false, false, false, false, false, false, false, false, false] rfl rfl (take_ofW HT_.out HW_.out (by kernel_rfl)) (fun _ _ _ h => h) (Or.inl ⟨by rfl, ?_⟩) hHeld ?_ ?_
       rotate_left
       ·rintro w' ⟨s0, s1, s2, s3, s4, s5, s6, s7, s8, s9, s10, s11, s12, s13⟩
        go_simp
        with_reducible rfl
       rotate_left
       ·simp only [Act.put, List.setIfInBounds_toArray, List.set_cons_zero, List.set_cons_succ, i64_w, i32_w]
        rfl
       refine one_ (i := 4) (N := some 26) #[true, true, true, true, true, true, false, false, false, false, false, false, false, false, false, false, false] rfl rfl (one_of HT_.out (by kernel_rfl)) (by decide) (fun K hK => ?_)
       refine goes_ Tryd.func17 (by kernel_rfl) rfl #[.agg #[.string t679, .int .i64 t680, .string t681, .int .i64 t682, .bool t683, .bool t684, .slice Ao32 t685.length co32]] (by rfl) rfl rfl (by (try simp only [List.map_toArray, List.map_cons, List.map_nil]); first | done | rfl | (simp only [List.length_drop, List.length_take]; rfl)) ?_
       with_reducible refine (squelchlaw05_Plain.calls kj3 t679 t680 t681 t682 t683 t684 _ _ t685 t690 _ ?side1 ?side2 A20.out).mono ?_
       (case side1 => repeat (first | exact (Kd.R_reads' HO687.out).2.2 | (with_reducible refine Kd.C_alloc ?_ _) | (with_reducible refine Kd.C_drewN ?_ _) | (with_reducible refine Kd.C_drew ?_)))
       (case side2 => exact (Kd.R_reads' HO687.out).2.1)
       rintro e w36 ⟨v691, rfl, ho0, hb⟩
       refine ⟨_, rfl, ?_⟩
       have n0_ := Aside0.mk (Kd.R_below (by (with_reducible repeat (first | apply Kd.R_alloc | apply Kd.R_drewN | apply Kd.R_drew)); exact HO687.out) hb)
       have n1_ := Aside0.mk (Kd.R_lower ho0 (below_size (by repeat (first | (with_reducible first | exact HB.out | apply below_alloc | apply pw_below_drewN | apply below_drew1 | refine below_set ?_ GE674.out | refine below_set ?_ GE689.out) | exact HB.out))))
       have n2_ := Aside0.mk (blk_below (g := gb674) (o := .cells #[.string a0_0, .int .i64 a0_1, .string a0_2, .int .i64 a0_3, .bool true, .bool false, .slice A0_6 l0_6.length c0_6] 26 (0, 0)) (by (with_reducible repeat (first | refine blk_drewN ?_ _ | refine blk_drew ?_ | refine blk_alloc ?_ _)); exact BK674.out) hb)
       have n3_ := Aside0.mk (blk_below (g := gb689) (o := .cells #[.string t679, .int .i64 t680, .string t681, .int .i64 t682, .bool t683, .bool t684, .slice Ao32 t685.length co32] 26 (0, 0)) (by (with_reducible repeat (first | refine blk_drewN ?_ _ | refine blk_drew ?_ | refine blk_alloc ?_ _)); exact BK689.out) hb)
       have n4_ := Aside0.mk (below_step (by repeat (first | (with_reducible first | exact HB.out | apply below_alloc | apply pw_below_drewN | apply below_drew1 | refine below_set ?_ GE674.out | refine below_set ?_ GE689.out) | exact HB.out)) hb)
       clear HO687
       clear BK674
       clear BK689
       clear HB
       have HO687 := n0_
       have HO692 := n1_
       have BK674 := n2_
       have BK689 := n3_
       have HB := n4_
       clear n0_ n1_ n2_ n3_ n4_
       (try clear hb)
       (try clear hb2)
       (try clear hk)
       (try clear hi)
       (try clear ho0)
       refine hK.out _ _ ⟨(blk_cell BK689.out 0).trans rfl, (blk_cell BK689.out 1).trans rfl, (blk_cell BK689.out 2).trans rfl, (blk_cell BK689.out 3).trans rfl, (blk_cell BK689.out 4).trans rfl, (blk_cell BK689.out 5).trans rfl, (blk_cell BK689.out 6).trans rfl, (blk_cell BK674.out 0).trans rfl, (blk_cell BK674.out 1).trans rfl, (blk_cell BK674.out 2).trans rfl, (blk_cell BK674.out 3).trans rfl, (blk_cell BK674.out 4).trans rfl, (blk_cell BK674.out 5).trans rfl, (blk_cell BK674.out 6).trans rfl⟩ (fun hHeld => ?_)
       clear hK K
       refine norm_ (a' := ?_) ?_ ?_
       rotate_left
       ·show Act.put _ (some 26) _ = _
        simp only [Act.put, List.setIfInBounds_toArray, List.set_cons_zero, List.set_cons_succ, i64_w, i32_w]
        rfl
       refine one_ (i := 6) (N := some 28) #[true, true, true, true, true, true, true, false, false, false, false, false, false, false, false, false, false] rfl rfl (one_of HT_.out (by kernel_rfl)) (by decide) (fun K hK => ?_)
       refine goes_ Tryd.func17 (by kernel_rfl) rfl #[.agg #[.string a0_0, .int .i64 a0_1, .string a0_2, .int .i64 a0_3, .bool true, .bool false, .slice A0_6 l0_6.length c0_6]] (by rfl) rfl rfl (by (try simp only [List.map_toArray, List.map_cons, List.map_nil]); first | done | rfl | (simp only [List.length_drop, List.length_take]; rfl)) ?_
       with_reducible refine (squelchlaw05_Plain.calls kj3 a0_0 a0_1 a0_2 a0_3 true false _ _ l0_6 t693 _ ?side1 ?side2 A21.out).mono ?_
       (case side1 => repeat (first | exact (Kd.C_below HR0_6.out HB.out) | (with_reducible refine Kd.C_alloc ?_ _) | (with_reducible refine Kd.C_drewN ?_ _) | (with_reducible refine Kd.C_drew ?_)))
       (case side2 => exact HC0_6.out)
       rintro e w37 ⟨v694, rfl, ho0, hb⟩
       refine ⟨_, rfl, ?_⟩
       have n0_ := Aside0.mk (Kd.R_below (by (with_reducible repeat (first | apply Kd.R_alloc | apply Kd.R_drewN | apply Kd.R_drew)); exact HO687.out) hb)
       have n1_ := Aside0.mk (Kd.R_elder' (by (with_reducible repeat (first | apply Kd.R_alloc | apply Kd.R_drewN | apply Kd.R_drew)); exact HO692.out) (Kd.R_base ho0) hb)
       have n2_ := Aside0.mk (Kd.R_lower (Kd.R_new' ho0 (Kd.R_lt (by (with_reducible repeat (first | apply Kd.R_alloc | apply Kd.R_drewN | apply Kd.R_drew)); exact HO692.out))) (below_size (by repeat (first | (with_reducible first | exact HB.out | apply below_alloc | apply pw_below_drewN | apply below_drew1 | refine below_set ?_ GE674.out | refine below_set ?_ GE689.out) | exact HB.out))))
       have n3_ := Aside0.mk (blk_below (g := gb674) (o := .cells #[.string a0_0, .int .i64 a0_1, .string a0_2, .int .i64 a0_3, .bool true, .bool false, .slice A0_6 l0_6.length c0_6] 26 (0, 0)) (by (with_reducible repeat (first | refine blk_drewN ?_ _ | refine blk_drew ?_ | refine blk_alloc ?_ _)); exact BK674.out) hb)
       have n4_ := Aside0.mk (blk_below (g := gb689) (o := .cells #[.string t679, .int .i64 t680, .string t681, .int .i64 t682, .bool t683, .bool t684, .slice Ao32 t685.length co32] 26 (0, 0)) (by (with_reducible repeat (first | refine blk_drewN ?_ _ | refine blk_drew ?_ | refine blk_alloc ?_ _)); exact BK689.out) hb)
       have n5_ := Aside0.mk (below_step (by repeat (first | (with_reducible first | exact HB.out | apply below_alloc | apply pw_below_drewN | apply below_drew1 | refine below_set ?_ GE674.out | refine below_set ?_ GE689.out) | exact HB.out)) hb)
       clear HO687
       clear HO692
       clear BK674
       clear BK689
       clear HB
       have HO687 := n0_
       have HO692 := n1_
       have HO695 := n2_
       have BK674 := n3_
       have BK689 := n4_
       have HB := n5_
       clear n0_ n1_ n2_ n3_ n4_ n5_
       (try clear hb)
       (try clear hb2)
       (try clear hk)
       (try clear hi)
       (try clear ho0)
       obtain ⟨Ao38, co38, eo38⟩ := Kd.R_slice HO692.out
       (first | subst eo38 | (injection eo38 with f1_ f2_ f3_; have f4_ := f1_.symm; have f5_ := f3_.symm; clear f1_ f2_ f3_; subst f4_; subst f5_))
       obtain ⟨Ao39, co39, eo39⟩ := Kd.R_slice HO695.out
       (first | subst eo39 | (injection eo39 with f1_ f2_ f3_; have f4_ := f1_.symm; have f5_ := f3_.symm; clear f1_ f2_ f3_; subst f4_; subst f5_))
       refine hK.out _ _ ⟨(blk_cell BK689.out 0).trans rfl, (blk_cell BK689.out 1).trans rfl, (blk_cell BK689.out 2).trans rfl, (blk_cell BK689.out 3).trans rfl, (blk_cell BK689.out 4).trans rfl, (blk_cell BK689.out 5).trans rfl, (blk_cell BK689.out 6).trans rfl, (blk_cell BK674.out 0).trans rfl, (blk_cell BK674.out 1).trans rfl, (blk_cell BK674.out 2).trans rfl, (blk_cell BK674.out 3).trans rfl, (blk_cell BK674.out 4).trans rfl, (blk_cell BK674.out 5).trans rfl, (blk_cell BK674.out 6).trans rfl⟩ (fun hHeld => ?_)
       clear hK K
       refine norm_ (a' := ?_) ?_ ?_
       rotate_left
       ·show Act.put _ (some 28) _ = _
        simp only [Act.put, List.setIfInBounds_toArray, List.set_cons_zero, List.set_cons_succ, i64_w, i32_w]
        rfl
       refine one_ (i := 7) (N := some 29) #[true, true, true, true, true, true, true, true, false, false, false, false, false, false, false, false, false] rfl rfl (one_of HT_.out (by kernel_rfl)) (by decide) (fun K hK => ?_)
       refine goes_ Tryd.func23 (by kernel_rfl) rfl #[.agg #[.slice Ao38 t690.length co38], .agg #[.slice Ao39 t693.length co39]] (by rfl) rfl rfl (by (try simp only [List.map_toArray, List.map_cons, List.map_nil]); first | done | rfl | (simp only [List.length_drop, List.length_take]; rfl)) ?_
       with_reducible refine (squelchref05_Same.calls kj3 _ _ t690 _ _ t693 true _ ?side1 ?side2 ?side3 ?side4 A22.out).mono ?_
       (case side1 => repeat (first | exact (Kd.R_reads' HO692.out).2.2 | (with_reducible refine Kd.C_alloc ?_ _) | (with_reducible refine Kd.C_drewN ?_ _) | (with_reducible refine Kd.C_drew ?_)))
       (case side2 => exact (Kd.R_reads' HO692.out).2.1)
       (case side3 => repeat (first | exact (Kd.R_reads' HO695.out).2.2 | (with_reducible refine Kd.C_alloc ?_ _) | (with_reducible refine Kd.C_drewN ?_ _) | (with_reducible refine Kd.C_drew ?_)))
       (case side4 => exact (Kd.R_reads' HO695.out).2.1)
       rintro e w40 ⟨rfl, hb⟩
       refine ⟨_, rfl, ?_⟩
       have n0_ := Aside0.mk (Kd.R_below (by (with_reducible repeat (first | apply Kd.R_alloc | apply Kd.R_drewN | apply Kd.R_drew)); exact HO687.out) hb)
       have n1_ := Aside0.mk (Kd.R_below (by (with_reducible repeat (first | apply Kd.R_alloc | apply Kd.R_drewN | apply Kd.R_drew)); exact HO692.out) hb)
       have n2_ := Aside0.mk (Kd.R_below (by (with_reducible repeat (first | apply Kd.R_alloc | apply Kd.R_drewN | apply Kd.R_drew)); exact HO695.out) hb)
       have n3_ := Aside0.mk (blk_below (g := gb674) (o := .cells #[.string a0_0, .int .i64 a0_1, .string a0_2, .int .i64 a0_3, .bool true, .bool false, .slice A0_6 l0_6.length c0_6] 26 (0, 0)) (by (with_reducible repeat (first | refine blk_drewN ?_ _ | refine blk_drew ?_ | refine blk_alloc ?_ _)); exact BK674.out) hb)
       have n4_ := Aside0.mk (blk_below (g := gb689) (o := .cells #[.string t679, .int .i64 t680, .string t681, .int .i64 t682, .bool t683, .bool t684, .slice Ao32 t685.length co32] 26 (0, 0)) (by (with_reducible repeat (first | refine blk_drewN ?_ _ | refine blk_drew ?_ | refine blk_alloc ?_ _)); exact BK689.out) hb)
       have n5_ := Aside0.mk (below_step (by repeat (first | (with_reducible first | exact HB.out | apply below_alloc | apply pw_below_drewN | apply below_drew1 | refine below_set ?_ GE674.out | refine below_set ?_ GE689.out) | exact HB.out)) hb)
       clear HO687
       clear HO692
       clear HO695
       clear BK674
       clear BK689
       clear HB
       have HO687 := n0_
       have HO692 := n1_
       have HO695 := n2_
       have BK674 := n3_
       have BK689 := n4_
       have HB := n5_
       clear n0_ n1_ n2_ n3_ n4_ n5_
       (try clear hb)
       (try clear hb2)
       (try clear hk)
       (try clear hi)
       refine hK.out _ _ ⟨(blk_cell BK689.out 0).trans rfl, (blk_cell BK689.out 1).trans rfl, (blk_cell BK689.out 2).trans rfl, (blk_cell BK689.out 3).trans rfl, (blk_cell BK689.out 4).trans rfl, (blk_cell BK689.out 5).trans rfl, (blk_cell BK689.out 6).trans rfl, (blk_cell BK674.out 0).trans rfl, (blk_cell BK674.out 1).trans rfl, (blk_cell BK674.out 2).trans rfl, (blk_cell BK674.out 3).trans rfl, (blk_cell BK674.out 4).trans rfl, (blk_cell BK674.out 5).trans rfl, (blk_cell BK674.out 6).trans rfl⟩ (fun hHeld => ?_)
       clear hK K
       refine norm_ (a' := ?_) ?_ ?_
       rotate_left
       ·show Act.put _ (some 29) _ = _
        simp only [Act.put, List.setIfInBounds_toArray, List.set_cons_zero, List.set_cons_succ, i64_w, i32_w]
        rfl
       refine pure_ (i := 8) (N := some 30) (v := ?_) (a' := ?_) #[true, true, true, true, true, true, true, true, true, false, false, false, false, false, false, false, false] rfl rfl (any_of HT_.out (by kernel_rfl)) (fun _ _ _ h => h) (Or.inl ⟨by rfl, ?_⟩) ?_ ?_
       rotate_left
       ·intro w'
        go_simp
        with_reducible rfl
       rotate_left
       ·simp only [Act.put, List.setIfInBounds_toArray, List.set_cons_zero, List.set_cons_succ, i64_w, i32_w]
        rfl
       refine pure_ (i := 9) (N := some 31) (v := ?_) (a' := ?_) #[true, true, true, true, true, true, true, true, true, true, false, false, false, false, false, false, false] rfl rfl (any_of HT_.out (by kernel_rfl)) (fun _ _ _ h => h) (Or.inl ⟨by rfl, ?_⟩) ?_ ?_
       rotate_left
       ·intro w'
        go_simp
        with_reducible rfl
       rotate_left
       ·simp only [Act.put, List.setIfInBounds_toArray, List.set_cons_zero, List.set_cons_succ, i64_w, i32_w]
        rfl
       refine take_ (i := 10) (N := some 32) (v := ?_) (a' := ?_) #[true, true, true, true, true, true, true, true, true, true, true, false, false, false, false, false, false] rfl rfl (take_ofW HT_.out HW_.out (by kernel_rfl)) (fun _ _ _ h => h) (Or.inl ⟨by rfl, ?_⟩) hHeld ?_ ?_
       rotate_left
       ·rintro w' ⟨s0, s1, s2, s3, s4, s5, s6, s7, s8, s9, s10, s11, s12, s13⟩
        go_simp
        with_reducible rfl
       rotate_left
       ·simp only [Act.put, List.setIfInBounds_toArray, List.set_cons_zero, List.set_cons_succ, i64_w, i32_w]
        rfl
       refine take_ (i := 12) (N := some 34) (v := ?_) (a' := ?_) #[true, true, true, true, true, true, true, true, true, true, true, false, true, false, false, false, false] rfl rfl (take_ofW HT_.out HW_.out (by kernel_rfl)) (fun _ _ _ h => h) (Or.inl ⟨by rfl, ?_⟩) hHeld ?_ ?_
       rotate_left
       ·rintro w' ⟨s0, s1, s2, s3, s4, s5, s6, s7, s8, s9, s10, s11, s12, s13⟩
        go_simp
        with_reducible rfl
       rotate_left
       ·simp only [Act.put, List.setIfInBounds_toArray, List.set_cons_zero, List.set_cons_succ, i64_w, i32_w]
        rfl
       refine one_ (i := 11) (N := some 33) #[true, true, true, true, true, true, true, true, true, true, true, true, true, false, false, false, false] rfl rfl (one_of HT_.out (by kernel_rfl)) (by decide) (fun K hK => ?_)
       refine goes_ Tryd.func33 (by kernel_rfl) rfl #[.agg #[.string t679, .int .i64 t680, .string t681, .int .i64 t682, .bool t683, .bool t684, .slice Ao32 t685.length co32]] (by rfl) rfl rfl (by (try simp only [List.map_toArray, List.map_cons, List.map_nil]); first | done | rfl | (simp only [List.length_drop, List.length_take]; rfl)) ?_
       with_reducible refine (path_Text.calls t679 t680 t681 t682 t683 t684 _ _ t685 t697 _ ?side1 ?side2 A24.out).mono ?_
       (case side1 => repeat (first | exact (Kd.R_reads' HO687.out).2.2 | (with_reducible refine Kd.C_alloc ?_ _) | (with_reducible refine Kd.C_drewN ?_ _) | (with_reducible refine Kd.C_drew ?_)))
       (case side2 => exact (Kd.R_reads' HO687.out).2.1)
       rintro e w41 ⟨rfl, hb⟩
       refine ⟨_, rfl, ?_⟩
       have n0_ := Aside0.mk (Kd.R_below (by (with_reducible repeat (first | apply Kd.R_alloc | apply Kd.R_drewN | apply Kd.R_drew)); exact HO687.out) hb)
       have n1_ := Aside0.mk (Kd.R_below (by (with_reducible repeat (first | apply Kd.R_alloc | apply Kd.R_drewN | apply Kd.R_drew)); exact HO692.out) hb)
       have n2_ := Aside0.mk (Kd.R_below (by (with_reducible repeat (first | apply Kd.R_alloc | apply Kd.R_drewN | apply Kd.R_drew)); exact HO695.out) hb)
       have n3_ := Aside0.mk (blk_below (g := gb674) (o := .cells #[.string a0_0, .int .i64 a0_1, .string a0_2, .int .i64 a0_3, .bool true, .bool false, .slice A0_6 l0_6.length c0_6] 26 (0, 0)) (by (with_reducible repeat (first | refine blk_drewN ?_ _ | refine blk_drew ?_ | refine blk_alloc ?_ _)); exact BK674.out) hb)
       have n4_ := Aside0.mk (blk_below (g := gb689) (o := .cells #[.string t679, .int .i64 t680, .string t681, .int .i64 t682, .bool t683, .bool t684, .slice Ao32 t685.length co32] 26 (0, 0)) (by (with_reducible repeat (first | refine blk_drewN ?_ _ | refine blk_drew ?_ | refine blk_alloc ?_ _)); exact BK689.out) hb)
       have n5_ := Aside0.mk (below_step (by repeat (first | (with_reducible first | exact HB.out | apply below_alloc | apply pw_below_drewN | apply below_drew1 | refine below_set ?_ GE674.out | refine below_set ?_ GE689.out) | exact HB.out)) hb)
       clear HO687
       clear HO692
       clear HO695
       clear BK674
       clear BK689
       clear HB
       have HO687 := n0_
       have HO692 := n1_
       have HO695 := n2_
       have BK674 := n3_
       have BK689 := n4_
       have HB := n5_
       clear n0_ n1_ n2_ n3_ n4_ n5_
       (try clear hb)
       (try clear hb2)
       (try clear hk)
       (try clear hi)
       refine hK.out _ _ ⟨(blk_cell BK689.out 0).trans rfl, (blk_cell BK689.out 1).trans rfl, (blk_cell BK689.out 2).trans rfl, (blk_cell BK689.out 3).trans rfl, (blk_cell BK689.out 4).trans rfl, (blk_cell BK689.out 5).trans rfl, (blk_cell BK689.out 6).trans rfl, (blk_cell BK674.out 0).trans rfl, (blk_cell BK674.out 1).trans rfl, (blk_cell BK674.out 2).trans rfl, (blk_cell BK674.out 3).trans rfl, (blk_cell BK674.out 4).trans rfl, (blk_cell BK674.out 5).trans rfl, (blk_cell BK674.out 6).trans rfl⟩ (fun hHeld => ?_)
       clear hK K
       refine norm_ (a' := ?_) ?_ ?_
       rotate_left
       ·show Act.put _ (some 33) _ = _
        simp only [Act.put, List.setIfInBounds_toArray, List.set_cons_zero, List.set_cons_succ, i64_w, i32_w]
        rfl
       refine one_ (i := 13) (N := some 35) #[true, true, true, true, true, true, true, true, true, true, true, true, true, true, false, false, false] rfl rfl (one_of HT_.out (by kernel_rfl)) (by decide) (fun K hK => ?_)
       refine goes_ Tryd.func33 (by kernel_rfl) rfl #[.agg #[.string a0_0, .int .i64 a0_1, .string a0_2, .int .i64 a0_3, .bool true, .bool false, .slice A0_6 l0_6.length c0_6]] (by rfl) rfl rfl (by (try simp only [List.map_toArray, List.map_cons, List.map_nil]); first | done | rfl | (simp only [List.length_drop, List.length_take]; rfl)) ?_
       with_reducible refine (path_Text.calls a0_0 a0_1 a0_2 a0_3 true false _ _ l0_6 t698 _ ?side1 ?side2 A25.out).mono ?_
       (case side1 => repeat (first | exact (Kd.C_below HR0_6.out HB.out) | (with_reducible refine Kd.C_alloc ?_ _) | (with_reducible refine Kd.C_drewN ?_ _) | (with_reducible refine Kd.C_drew ?_)))
       (case side2 => exact HC0_6.out)
       rintro e w42 ⟨rfl, hb⟩
       refine ⟨_, rfl, ?_⟩
       have n0_ := Aside0.mk (Kd.R_below (by (with_reducible repeat (first | apply Kd.R_alloc | apply Kd.R_drewN | apply Kd.R_drew)); exact HO687.out) hb)
       have n1_ := Aside0.mk (Kd.R_below (by (with_reducible repeat (first | apply Kd.R_alloc | apply Kd.R_drewN | apply Kd.R_drew)); exact HO692.out) hb)
       have n2_ := Aside0.mk (Kd.R_below (by (with_reducible repeat (first | apply Kd.R_alloc | apply Kd.R_drewN | apply Kd.R_drew)); exact HO695.out) hb)
       have n3_ := Aside0.mk (blk_below (g := gb674) (o := .cells #[.string a0_0, .int .i64 a0_1, .string a0_2, .int .i64 a0_3, .bool true, .bool false, .slice A0_6 l0_6.length c0_6] 26 (0, 0)) (by (with_reducible repeat (first | refine blk_drewN ?_ _ | refine blk_drew ?_ | refine blk_alloc ?_ _)); exact BK674.out) hb)
       have n4_ := Aside0.mk (blk_below (g := gb689) (o := .cells #[.string t679, .int .i64 t680, .string t681, .int .i64 t682, .bool t683, .bool t684, .slice Ao32 t685.length co32] 26 (0, 0)) (by (with_reducible repeat (first | refine blk_drewN ?_ _ | refine blk_drew ?_ | refine blk_alloc ?_ _)); exact BK689.out) hb)
       have n5_ := Aside0.mk (below_step (by repeat (first | (with_reducible first | exact HB.out | apply below_alloc | apply pw_below_drewN | apply below_drew1 | refine below_set ?_ GE674.out | refine below_set ?_ GE689.out) | exact HB.out)) hb)
       clear HO687
       clear HO692
       clear HO695
       clear BK674
       clear BK689
       clear HB
       have HO687 := n0_
       have HO692 := n1_
       have HO695 := n2_
       have BK674 := n3_
       have BK689 := n4_
       have HB := n5_
       clear n0_ n1_ n2_ n3_ n4_ n5_
       (try clear hb)
       (try clear hb2)
       (try clear hk)
       (try clear hi)
       refine hK.out _ _ ⟨(blk_cell BK689.out 0).trans rfl, (blk_cell BK689.out 1).trans rfl, (blk_cell BK689.out 2).trans rfl, (blk_cell BK689.out 3).trans rfl, (blk_cell BK689.out 4).trans rfl, (blk_cell BK689.out 5).trans rfl, (blk_cell BK689.out 6).trans rfl, (blk_cell BK674.out 0).trans rfl, (blk_cell BK674.out 1).trans rfl, (blk_cell BK674.out 2).trans rfl, (blk_cell BK674.out 3).trans rfl, (blk_cell BK674.out 4).trans rfl, (blk_cell BK674.out 5).trans rfl, (blk_cell BK674.out 6).trans rfl⟩ (fun hHeld => ?_)
       clear hK K
       refine norm_ (a' := ?_) ?_ ?_
       rotate_left
       ·show Act.put _ (some 35) _ = _
        simp only [Act.put, List.setIfInBounds_toArray, List.set_cons_zero, List.set_cons_succ, i64_w, i32_w]
        rfl
       refine pure_ (i := 14) (N := some 36) (v := ?_) (a' := ?_) #[true, true, true, true, true, true, true, true, true, true, true, true, true, true, true, false, false] rfl rfl (any_of HT_.out (by kernel_rfl)) (fun _ _ _ h => h) (Or.inl ⟨by rfl, ?_⟩) ?_ ?_
       rotate_left
       ·intro w'
        go_simp
        with_reducible rfl
       rotate_left
       ·simp only [Act.put, List.setIfInBounds_toArray, List.set_cons_zero, List.set_cons_succ, i64_w, i32_w]
        rfl
       refine pure_ (i := 15) (N := some 37) (v := ?_) (a' := ?_) #[true, true, true, true, true, true, true, true, true, true, true, true, true, true, true, true, false] rfl rfl (any_of HT_.out (by kernel_rfl)) (fun _ _ _ h => h) (Or.inl ⟨by rfl, ?_⟩) ?_ ?_
       rotate_left
       ·intro w'
        go_simp
        with_reducible rfl
       rotate_left
       ·simp only [Act.put, List.setIfInBounds_toArray, List.set_cons_zero, List.set_cons_succ, i64_w, i32_w]
        rfl
       refine pure_ (i := 16) (N := some 2) (v := ?_) (a' := ?_) #[true, true, true, true, true, true, true, true, true, true, true, true, true, true, true, true, true] rfl rfl (any_of HT_.out (by kernel_rfl)) (fun _ _ _ h => h) (Or.inl ⟨by rfl, ?_⟩) ?_ ?_
       rotate_left
       ·intro w'
        go_simp
        with_reducible rfl
       rotate_left
       ·simp only [Act.put, List.setIfInBounds_toArray, List.set_cons_zero, List.set_cons_succ, i64_w, i32_w]
        rfl
       refine done_ (done_of HT_.out (by kernel_rfl)) ?_
       try go_wp2
       go_ret
       exact ⟨by first | rfl | (simp [errW_none, errW_some] <;> rfl) | (simp [*, errW_none, errW_some] <;> rfl), by repeat (first | (with_reducible first | exact HB.out | apply below_alloc | apply pw_below_drewN | apply below_drew1 | refine below_set ?_ GE674.out | refine below_set ?_ GE689.out) | exact HB.out)⟩
      ·replace c23 := Bool.eq_false_iff.mpr c23
       subst c23
       have H1 : (some false) = some r := by rw [if_neg (show ¬ (false = true) by decide)] at H; exact H
       clear H
       have H := H1
       clear H1
       exact absurd ((Option.some.inj H).trans HT_.out) (by decide)
     ·rw [if_neg c19] at H
      have c19b0 : (t688 == 0) = false := beq_eq_false_iff_ne.mpr c19
      have c19b1 : (t688 != 0) = true := bne_iff_ne.mpr c19
      exact absurd ((Option.some.inj H).trans HT_.out) (by decide)
 ·replace c3 := Bool.eq_false_iff.mpr c3
  subst c3
  have H1 : (some false) = some r := by rw [if_neg (show ¬ (false = true) by decide)] at H; exact H
  clear H
  have H := H1
  clear H1
  exact absurd ((Option.some.inj H).trans HT_.out) (by decide)

end Go.Proofs.YtpmieapgbdbabaaDoor.QAll
end

section
/- Walks, written by a program of this session (wip/pp): a Go function comes to what the Lean function beside it tells. -/
namespace Go.Proofs.YtpmieapgbdbabaaDoor.QAll
open Go.RowKit Go.Proofs.YtpmieapgbdbabaaDoorW.PrintWords Go.Proofs.YtpmieapgbdbabaaDoorW.PrintLast Go.Proofs.YtpmieapgbdbabaaDoorW.PrintMore
set_option linter.unusedVariables false
set_option linter.unusedSimpArgs false

attribute [local go_sem high] eqA23
def squelchlaw05_PathParses.f (k : Nat) (a0 : ByteArray) : Option (Bool) := (squelchlaw05_awake.f).bind fun t651 => (if t651 = true then (if (a0.size : Int) > 300 then (some true) else ((path_Parse.f k a0).bind fun bt652 => ((squelchref05_Parse.f k a0).bind fun bt663 => (if bt652.2.2.2.2.2.2.2 = bt663.2 then (if bt663.2 = 0 then ((squelchlaw05_Plain.f k bt652.1 bt652.2.1 bt652.2.2.1 bt652.2.2.2.1 bt652.2.2.2.2.1 bt652.2.2.2.2.2.1 bt652.2.2.2.2.2.2.1).bind fun t668 => ((squelchref05_Same.f k t668 bt663.1).bind fun t671 => (if t671 = true then ((path_Right.f bt652.1 bt652.2.1 bt652.2.2.1 bt652.2.2.2.1 bt652.2.2.2.2.1 bt652.2.2.2.2.2.1 bt652.2.2.2.2.2.2.1).bind fun t672 => (if t672 = true then ((path_Command.f bt652.1 bt652.2.1 bt652.2.2.1 bt652.2.2.2.1 bt652.2.2.2.2.1 bt652.2.2.2.2.2.1 bt652.2.2.2.2.2.2.1).bind fun t673 => (some t673)) else (some false))) else (some false)))) else (if (bt652.1.toList == ([] : List UInt8) && (bt652.2.1 == 0)) = true then (if (bt652.2.2.1.toList == ([] : List UInt8) && (bt652.2.2.2.1 == 0)) = true then (some ((bt652.2.2.2.2.2.2.1.length : Int) == 0)) else (some false)) else (some false))) else (some false))))) else (some false))
/-- THE ONE PURE STATEMENT of squelchlaw05_PathParses: yours. -/
def squelchlaw05_PathParses.Pure : Prop := ∀ (a0 : ByteArray), a0.size ≤ 140737488351232 → ∃ k, squelchlaw05_PathParses.f k a0 = some true
end Go.Proofs.YtpmieapgbdbabaaDoor.QAll
end

section
/- The plain law of PathParses: the path of any word is the one that the reference says, or none, told so; over plain strings and lists. -/
set_option linter.unusedVariables false
namespace Go.Proofs.YtpmieapgbdbabaaDoor.Pure
open Go.RowKit Go.Proofs.YtpmieapgbdbabaaDoor.QAll Go.Proofs.YtpmieapgbdbabaaDoorW.PrintWords Go.Proofs.YtpmieapgbdbabaaDoorW.PrintLast

/-- The reference's walk to the first '>'. -/
theorem ref_gt (s : ByteArray) (hs : s.size ≤ 1000000) (q : Nat) (hq : q ≤ s.size) (h1 : ∀ j : Nat, j < q → s.toList[j]? ≠ some 62) (h2 : q < s.size → s.toList[q]? = some 62) : ∀ (d i K : Nat), q - i ≤ d → d + 2 ≤ K → i ≤ q →
    ∃ K', K ≤ K' + d + 1 ∧ squelchref05_Parse.l0 K s (i : Int) = squelchref05_Parse.j1 K' s (q : Int)
  | d, i, 0, _, hk, _ => absurd hk (by omega)
  | d, i, K + 1, hd, hk, hi => by
    rw [squelchref05_Parse.l0]
    by_cases h : i < q
    · obtain ⟨d', rfl⟩ : ∃ d', d = d' + 1 := ⟨d - 1, by omega⟩
      obtain ⟨b, r, e1, e2, e3⟩ := bt_at s i (by omega)
      have hb : b ≠ 62 := by
        intro e
        subst e
        refine h1 i h ?_
        have : (s.toList.drop i)[0]? = some 62 := by rw [e1]; rfl
        simpa using this
      have hbn : ¬ ((b.toNat : Int) = 62) := fun e => hb (UInt8.toNat_inj.1 (by have : (62 : UInt8).toNat = 62 := rfl; omega))
      obtain ⟨K', g1, g2⟩ := ref_gt s hs q hq h1 h2 d' (i + 1) K (by omega) (by omega) (by omega)
      exact ⟨K', by omega, by rw [if_pos (by omega), if_pos (by omega), e3, if_neg hbn, wrap_succ i (by omega), g2]⟩
    · obtain rfl : i = q := by omega
      refine ⟨K, by omega, ?_⟩
      by_cases hl : i < s.size
      · obtain ⟨b, r, e1, e2, e3⟩ := bt_at s i hl
        have hb : b = 62 := by
          have g := h2 hl
          have : (s.toList.drop i)[0]? = some b := by rw [e1]; rfl
          simp only [List.getElem?_drop, Nat.add_zero] at this
          rw [g] at this
          exact (Option.some.inj this).symm
        rw [if_pos (by omega), if_pos (by omega), e3, hb, if_pos (by decide)]
      · rw [if_neg (by omega)]
theorem dgF_err : ∀ (l : List ByteArray) (i : Nat) (out : List S93) (st last : Int), (dgF l i out st last).2.2.2 = 0 ∨ (dgF l i out st last).2.2.2 = 11 ∨ (dgF l i out st last).2.2.2 = 12
  | [], _, _, _, _ => Or.inl rfl
  | w :: r, i, out, st, last => by
    rw [dgF]
    split
    · exact Or.inr (Or.inl rfl)
    · split
      · exact dgF_err r _ _ _ _
      · rename_i h
        exact Or.inr (Or.inr ((parse_err _).resolve_left h))
theorem right_size {s : ByteArray} {n : Int} (h : rightB s n = true) : s.size ≤ 6 := by
  unfold rightB at h
  have hl : 1 ≤ s.size ∧ s.size ≤ 6 ∧ 0 ≤ n ∧ n ≤ 15 := by simpa using (by simpa using h : _ ∧ _).2
  exact hl.2.1
theorem sizes_of_right {a b : ByteArray} {n m : Int} {D : List S93} (h : pathB a n b m D = true) (hl : D.length ≤ 8) : sizesOk a b D = true := by
  unfold pathB at h
  simp only [Bool.and_eq_true, List.all_eq_true] at h
  have h1 := right_size h.1
  have h2 := right_size h.2.1
  unfold sizesOk
  simp only [Bool.and_eq_true, decide_eq_true_eq, List.all_eq_true]
  exact ⟨by omega, by omega, fun d hd => by have := right_size (h.2.2.1 d hd); omega, by omega⟩
def none8 (e : Int) : ByteArray × Int × ByteArray × Int × Bool × Bool × List S93 × Int := (⟨#[]⟩, 0, ⟨#[]⟩, 0, false, false, [], e)
theorem parse_both (s : ByteArray) (hs : s.size ≤ 1000) (K : Nat) (hK : 30000 ≤ K) :
    (∃ e : Int, (e = 2 ∨ e = 11 ∨ e = 12) ∧ path_Parse.f K s = some (none8 e) ∧ squelchref05_Parse.f K s = some ([], e)) ∨
    (∃ (a : ByteArray) (n : Int) (b : ByteArray) (m : Int) (D : List S93), path_Parse.f K s = some (a, n, b, m, true, false, D, 0) ∧ squelchref05_Parse.f K s = some ((⟨⟨a, n⟩, true⟩ : S37) :: (⟨⟨b, m⟩, false⟩ : S37) :: D.map mk37, 0) ∧
      pathB a n b m D = true ∧ D.length ≤ 8) := by
  unfold path_Parse.f strings_Cut.f
  have h62 : (⟨#[62]⟩ : ByteArray).size = 1 := rfl
  have ho : oneB ⟨#[62]⟩ = 62 := rfl
  rw [if_pos (⟨h62, by omega⟩ : _ ∧ _)]
  simp only [Option.bind_some, ho]
  unfold squelchref05_Parse.f
  by_cases hhas : 0 ≤ Lib.indexByte s.toList 62
  · obtain ⟨q, hq⟩ := Int.eq_ofNat_of_zero_le hhas
    have hlt : q < s.size := by rw [← len_eq]; exact indexByte_lt _ _ _ hq
    obtain ⟨g1, g2⟩ := Lib.indexByte_some hq
    have hH : cutHas s 62 = true := by unfold cutHas; rw [← Go.ByteArray.toList_eq]; exact decide_eq_true hhas
    have hI : idxOf s 62 = q := by unfold idxOf; rw [← Go.ByteArray.toList_eq, hq]; rfl
    have hA : cutA s 62 = s.extract 0 q := by unfold cutA; rw [if_pos hH, hI]
    have hB : cutB s 62 = s.extract (q + 1) s.size := by unfold cutB; rw [if_pos hH, hI]
    obtain ⟨K', k1, k2⟩ := ref_gt s (by omega) q (by omega) g2 (fun _ => g1) q 0 K (by omega) (by omega) (by omega)
    rw [show ((0 : Nat) : Int) = 0 from rfl] at k2
    obtain ⟨K1, rfl⟩ : ∃ K1, K' = K1 + 1 := ⟨K' - 1, by omega⟩
    rw [k2, squelchref05_Parse.j1, if_pos hH, hA, hB, if_neg (show ¬ (q : Int) = (s.size : Int) by omega), wrap_succ q (by omega), if_pos (show 0 ≤ ((q + 1 : Nat) : Int) by omega), if_pos (show ((q + 1 : Nat) : Int) ≤ (s.size : Int) by omega), Int.toNat_natCast]
    have hBs : (s.extract (q + 1) s.size).size ≤ s.size := by rw [ByteArray.size_extract]; omega
    have hAs : (s.extract 0 q).size ≤ s.size := by rw [ByteArray.size_extract]; omega
    have hsp := ref_split (s.extract (q + 1) s.size) (by omega) 44 K1 (by omega)
    rw [show (((44 : UInt8).toNat : Nat) : Int) = 44 by decide] at hsp
    rw [hsp]
    unfold strings_Split.f
    rw [if_pos (⟨by decide, by omega⟩ : _ ∧ _)]
    simp only [Option.bind_some]
    obtain ⟨s1, s2, s3⟩ := split_sizes (s.extract (q + 1) s.size) 44
    obtain ⟨W, hW⟩ : ∃ W, W = splitS (s.extract (q + 1) s.size) ⟨#[44]⟩ := ⟨_, rfl⟩
    rw [← hW] at s1 s2 s3 ⊢
    have hWl : 1 ≤ W.length := by
      cases W with
      | nil => exact absurd rfl s1
      | cons x y => simp
    have hmem0 : rdOf ByteArray.empty W ((0 : Nat) : Int) ∈ W := by
      have := rdOf_at W 0 (by omega)
      rw [List.drop_zero] at this
      have h2 : rdOf ByteArray.empty W ((0 : Nat) : Int) ∈ rdOf ByteArray.empty W ((0 : Nat) : Int) :: W.drop (0 + 1) := by simp
      rw [← this] at h2
      exact h2
    have hw0 := s3 _ hmem0
    rw [show ((0 : Nat) : Int) = 0 from rfl] at hw0
    unfold call_Parse.f
    rw [if_pos (show (s.extract 0 q).size ≤ 281474976710656 by omega), if_pos (show 0 ≤ (q : Int) by omega), if_pos (show (q : Int) ≤ (s.size : Int) by omega), Int.toNat_natCast, ref_parse (s.extract 0 q) (by omega) K1 (by omega)]
    simp only [Option.bind_some]
    rw [if_pos (show 0 < (W.length : Int) by omega), if_pos (show 0 < (W.length : Int) by omega), if_pos (show (rdOf ByteArray.empty W 0).size ≤ 281474976710656 by omega), ref_parse (rdOf ByteArray.empty W 0) (by omega) K1 (by omega)]
    simp only [Option.bind_some]
    have HA := Aside0.mk hAs
    obtain ⟨K2, rfl⟩ : ∃ K2, K1 = K2 + 1 := ⟨K1 - 1, by omega⟩
    by_cases ha : (parseS (s.extract 0 q)).2.2 = 0
    · rw [if_pos ha, if_pos (show ((parseS (s.extract 0 q)).2.2 == 0) = true by rw [ha]; rfl), squelchref05_Parse.j2]
      by_cases hb : (parseS (rdOf ByteArray.empty W 0)).2.2 = 0
      · rw [if_pos hb, if_neg (show ¬ (!((parseS (rdOf ByteArray.empty W 0)).2.2 == 0)) = true by rw [hb]; decide), if_pos (show 1 ≤ (W.length : Int) by omega)]
        have ra := Aside0.mk (parse_right _ ha)
        have rb := Aside0.mk (parse_right _ hb)
        clear ha hb
        have hdrop : W.drop 1 = W.drop (0 + 1) := rfl
        have d1 : (W.drop 1).length ≤ 1000000 := by rw [List.length_drop]; omega
        have d2 : ∀ x ∈ W.drop 1, x.size ≤ 1000000 := fun x hx => by have := s3 x (List.mem_of_mem_drop hx); omega
        have d3 : (W.drop 1).length + 12 ≤ K := by rw [List.length_drop]; omega
        rw [digis_f (W.drop 1) d1 d2 K d3]
        have hr := ref_digis (⟨⟨(parseS (rdOf ByteArray.empty W 0)).1, (parseS (rdOf ByteArray.empty W 0)).2.1⟩, true⟩ : S37) (⟨⟨(parseS (s.extract 0 q)).1, (parseS (s.extract 0 q)).2.1⟩, false⟩ : S37) W 1000 (by omega) (by omega) (fun x hx => by have := s3 x hx; omega) 1000 0 K2 [] 0 (-1) (by omega) (by omega) (by omega) rfl (by omega) (by omega) (by omega) (by omega) (by omega)
        rw [show ((0 + 1 : Nat) : Int) = 1 from rfl, show marked ((-1 : Int) + 1).toNat ([] : List S93) = [] from rfl, List.map_nil] at hr
        rw [hr]
        simp only [Option.bind_some]
        have hg := dgF_right (W.drop 1) 0 [] 0 (-1) rfl (by omega) (fun d hd => by cases hd) (by omega) (by omega)
        have hee : (dgF (W.drop 1) 0 [] 0 (-1)).2.2.2 = 0 ∨ (dgF (W.drop 1) 0 [] 0 (-1)).2.2.2 = 11 ∨ (dgF (W.drop 1) 0 [] 0 (-1)).2.2.2 = 12 := dgF_err _ _ _ _ _
        rw [← hdrop]
        obtain ⟨x, hx⟩ : ∃ x, x = dgF (W.drop 1) 0 [] 0 (-1) := ⟨_, rfl⟩
        rw [← hx] at hg hee ⊢
        clear hr hx d1 d2 d3 hdrop
        unfold digisEnd refEnd
        by_cases he : x.2.2.2 = 0
        · obtain ⟨q1, q2, q3⟩ := hg he
          rw [if_pos he, if_pos he, if_pos (by trivial)]
          by_cases hst : x.2.1 > 1
          · rw [if_pos hst, if_pos hst]
            exact Or.inl ⟨2, Or.inl rfl, rfl, rfl⟩
          · rw [if_neg hst, if_neg hst]
            refine Or.inr ⟨_, _, _, _, _, rfl, rfl, ?_, by rw [marked_len]; exact q2⟩
            unfold pathB ordB
            rw [rb.out, ra.out, marked_right _ _ (fun d hd => (q1 d hd).1), ord_marked _ _ (fun d hd => (q1 d hd).2), marked_len, decide_eq_true q2]
            rfl
        · rw [if_neg he, if_neg he, if_neg he]
          rcases hee with h | h | h
          · exact absurd h he
          · exact Or.inl ⟨11, Or.inr (Or.inl rfl), by rw [h]; rfl, by rw [h]⟩
          · exact Or.inl ⟨12, Or.inr (Or.inr rfl), by rw [h]; rfl, by rw [h]⟩
      · have h12 : (parseS (rdOf ByteArray.empty W 0)).2.2 = 12 := (parse_err _).resolve_left hb
        rw [if_neg hb, if_pos (show (!((parseS (rdOf ByteArray.empty W 0)).2.2 == 0)) = true by rw [h12]; decide), h12]
        exact Or.inl ⟨12, Or.inr (Or.inr rfl), rfl, rfl⟩
    · have h12 : (parseS (s.extract 0 q)).2.2 = 12 := (parse_err _).resolve_left ha
      rw [if_neg ha, if_neg (show ¬ ((parseS (s.extract 0 q)).2.2 == 0) = true by rw [h12]; decide), squelchref05_Parse.j2, if_pos (by trivial), h12]
      exact Or.inl ⟨12, Or.inr (Or.inr rfl), rfl, rfl⟩
  · have hm1 : Lib.indexByte s.toList 62 = -1 := by have := Lib.indexByte_ge s.toList 62; omega
    have hno := Lib.indexByte_none hm1
    have hH : cutHas s 62 = false := by unfold cutHas; rw [← Go.ByteArray.toList_eq]; exact decide_eq_false hhas
    obtain ⟨K', k1, k2⟩ := ref_gt s (by omega) s.size (by omega) (fun j _ => hno j) (fun h => absurd h (by omega)) s.size 0 K (by omega) (by omega) (by omega)
    rw [show ((0 : Nat) : Int) = 0 from rfl] at k2
    obtain ⟨K1, rfl⟩ : ∃ K1, K' = K1 + 1 := ⟨K' - 1, by omega⟩
    rw [k2, squelchref05_Parse.j1, hH, if_neg (by decide), if_pos (show (s.size : Int) = (s.size : Int) from rfl)]
    exact Or.inl ⟨2, Or.inl rfl, rfl, rfl⟩
theorem PathParses : squelchlaw05_PathParses.Pure := by
  intro s _
  refine ⟨40000, ?_⟩
  unfold squelchlaw05_PathParses.f
  rw [show squelchlaw05_awake.f = some true from rfl]
  simp only [Option.bind_some]
  rw [if_pos (by trivial)]
  by_cases hs : (s.size : Int) > 300
  · rw [if_pos hs]
  · rw [if_neg hs]
    rcases parse_both s (by omega) 40000 (by omega) with ⟨e, he, h1, h2⟩ | ⟨a, n, b, m, D, h1, h2, h3, h4⟩
    · rw [h1, h2]
      simp only [Option.bind_some, none8]
      have hne : ¬ e = 0 := by omega
      have he0 : (⟨#[]⟩ : ByteArray).toList = [] := by rw [Go.ByteArray.toList_eq]
      rw [if_pos (by trivial), if_neg hne, he0, if_pos (by rfl), if_pos (by rfl)]
      rfl
    · rw [h1, h2]
      simp only [Option.bind_some]
      rw [if_pos (by trivial), if_pos (by trivial), plain_f _ _ _ _ _ _ D (by omega) 40000 (by omega)]
      simp only [Option.bind_some]
      rw [same_f _ (by simp; omega) 40000 (by simp; omega)]
      simp only [Option.bind_some]
      rw [if_pos (by trivial)]
      unfold path_Right.f
      rw [if_pos (sizes_of_right h3 h4), h3]
      rfl
end Go.Proofs.YtpmieapgbdbabaaDoor.Pure
end

section
/- The plain law of PathTexts: the word of any right path is read as it; over plain strings and lists. -/
set_option linter.unusedVariables false
set_option linter.unusedSimpArgs false
namespace Go.Proofs.YtpmieapgbdbabaaDoor.Pure
open Go.RowKit Go.Proofs.YtpmieapgbdbabaaDoor.QAll Go.Proofs.YtpmieapgbdbabaaDoorW.PrintWords Go.Proofs.YtpmieapgbdbabaaDoorW.PrintLast

theorem index_app_c (c : UInt8) : ∀ (l r : List UInt8), (∀ x ∈ l, x ≠ c) → Lib.indexByte (l ++ c :: r) c = l.length
  | [], r, _ => by simp [Lib.indexByte]
  | b :: l, r, h => by
    have ih := index_app_c c l r (fun x hx => h x (by simp [hx]))
    have hb : (b == c) = false := beq_eq_false_iff_ne.2 (h b (by simp))
    have hm : (((l.length : Nat) : Int) == -1) = false := beq_eq_false_iff_ne.2 (by omega)
    simp only [List.cons_append, Lib.indexByte, ih, hb, hm, List.length_cons]
    simp
theorem splitL_app (c : UInt8) : ∀ (p r : List UInt8), (∀ x ∈ p, x ≠ c) → splitL c (p ++ c :: r) = p :: splitL c r
  | [], r, _ => by simp [splitL]
  | b :: p, r, h => by
    have ih := splitL_app c p r (fun x hx => h x (by simp [hx]))
    rw [List.cons_append, splitL, if_neg (h b (by simp)), ih]
    rfl
theorem splitL_no (c : UInt8) : ∀ p : List UInt8, (∀ x ∈ p, x ≠ c) → splitL c p = [p]
  | [], _ => rfl
  | b :: p, h => by
    rw [splitL, if_neg (h b (by simp)), splitL_no c p (fun x hx => h x (by simp [hx]))]
    rfl
/-- A word's letters: no '>', no ',', no '*'. -/
theorem word_letters {s : ByteArray} {n : Int} (h : rightB s n = true) : ∀ x ∈ (textS s n).toList, x ≠ 62 ∧ x ≠ 44 ∧ x ≠ 42 := by
  obtain ⟨hc, h1, h2, h3, h4⟩ := right_parts h
  have hdig : ∀ m : Nat, ∀ x ∈ digs m, m < 100 → 48 ≤ x.toNat ∧ x.toNat ≤ 57 := by
    intro m x hx hm
    unfold digs at hx
    split at hx
    · rw [List.mem_singleton] at hx
      subst hx
      rw [UInt8.toNat_ofNat']
      omega
    · simp only [List.mem_cons, List.not_mem_nil, or_false] at hx
      rcases hx with rfl | rfl <;> (rw [UInt8.toNat_ofNat']; omega)
  have key : ∀ x : UInt8, ((65 ≤ x.toNat ∧ x.toNat ≤ 90) ∨ (48 ≤ x.toNat ∧ x.toNat ≤ 57) ∨ x = 45) → x ≠ 62 ∧ x ≠ 44 ∧ x ≠ 42 := by
    intro x hx
    rcases hx with hx | hx | rfl
    · refine ⟨fun e => ?_, fun e => ?_, fun e => ?_⟩ <;> (subst e; revert hx; decide)
    · refine ⟨fun e => ?_, fun e => ?_, fun e => ?_⟩ <;> (subst e; revert hx; decide)
    · decide
  intro x hx
  apply key
  unfold textS at hx
  split at hx
  · rcases hc x hx with h | h
    · exact Or.inl h
    · exact Or.inr (Or.inl h)
  · rw [toList_app, toList_app, List.mem_append, List.mem_append] at hx
    rcases hx with (hx | hx) | hx
    · rcases hc x hx with h | h
      · exact Or.inl h
      · exact Or.inr (Or.inl h)
    · rw [Go.ByteArray.toList_eq] at hx
      exact Or.inr (Or.inr (by simpa using hx))
    · rw [Go.ByteArray.toList_eq] at hx
      exact Or.inr (Or.inl (hdig n.toNat x (by simpa using hx) (by omega)))
theorem word_text {s : ByteArray} {n : Int} (h : rightB s n = true) : wordS s n = textS s n := by
  have h1 := (word_f s n h).1
  have h6 := right_size h
  rw [call_text s n (by omega), if_pos h] at h1
  exact (Option.some.inj h1).symm
def starAt (d : S93) (r : List S93) : Bool := d.f1 && (match r with | [] => true | e :: _ => !e.f1)
/-- The words of digipeaters. -/
def wordD (d : S93) (r : List S93) : ByteArray := ⟨((textS d.f0.f0 d.f0.f1).data.toList ++ (if starAt d r = true then [42] else [])).toArray⟩
def bwl : List S93 → List ByteArray
  | [] => []
  | d :: r => wordD d r :: bwl r
theorem wordD_list (d : S93) (r : List S93) : (wordD d r).toList = (textS d.f0.f0 d.f0.f1).toList ++ (if starAt d r = true then [42] else []) := by
  rw [Go.ByteArray.toList_eq, Go.ByteArray.toList_eq]; rfl
theorem digT_eq (d : S93) (r : List S93) (h : rightD d = true) : digT (d :: r) = 44 :: ((wordD d r).toList ++ digT r) := by
  rw [wordD_list]
  conv => lhs; unfold digT
  rw [word_text h, ← Go.ByteArray.toList_eq]
  cases r with
  | nil => cases hf : d.f1 <;> simp [starAt, hf]
  | cons e t => cases hf : d.f1 <;> cases hg : e.f1 <;> simp [starAt, hf, hg]
theorem split_words : ∀ (D : List S93) (p : List UInt8), (∀ x ∈ p, x ≠ 44) → (∀ d ∈ D, rightD d = true) → splitL 44 (p ++ digT D) = p :: (bwl D).map (·.toList)
  | [], p, hp, _ => by
    rw [show digT [] = [] from rfl, List.append_nil, splitL_no 44 p hp]
    rfl
  | d :: r, p, hp, hr => by
    have hd := hr d (by simp)
    rw [digT_eq d r hd, splitL_app 44 p _ hp, split_words r _ (fun x hx => ?_) (fun e he => hr e (by simp [he]))]
    · rfl
    · rw [wordD_list, List.mem_append] at hx
      rcases hx with hx | hx
      · exact (word_letters hd x hx).2.1
      · split at hx
        · rw [List.mem_singleton] at hx; subst hx; decide
        · cases hx
theorem bt_last (w : ByteArray) (p : List UInt8) (c : UInt8) (h : w.toList = p ++ [c]) : w.size = p.length + 1 ∧ bt w ((w.size - 1 : Nat) : Int) = (c.toNat : Int) := by
  have hs : w.size = p.length + 1 := by rw [← len_eq, h]; simp
  refine ⟨hs, ?_⟩
  obtain ⟨b, r, e1, e2, e3⟩ := bt_at w (w.size - 1) (by omega)
  rw [e3]
  rw [h, hs, Nat.add_sub_cancel, List.drop_append_of_le_length (Nat.le_refl _), List.drop_length, List.nil_append] at e1
  simp only [List.cons.injEq] at e1
  rw [e1.1]
theorem star_word (d : S93) (r : List S93) (h : rightD d = true) : starOf (wordD d r) = starAt d r ∧ bareOf (wordD d r) = textS d.f0.f0 d.f0.f1 := by
  have hl := wordD_list d r
  cases hs : starAt d r with
  | true =>
    rw [hs, if_pos rfl] at hl
    obtain ⟨h1, h2⟩ := bt_last _ _ _ hl
    have hst : starOf (wordD d r) = true := by
      unfold starOf
      rw [decide_eq_true (by omega), h2]
      rfl
    refine ⟨hst, ?_⟩
    unfold bareOf
    rw [if_pos hst]
    apply ba_eq
    rw [toList_ext, List.drop_zero, hl, h1, Nat.add_sub_cancel, List.take_append_of_le_length (Nat.le_refl _), List.take_length]
  | false =>
    rw [hs, if_neg (by simp), List.append_nil] at hl
    have hst : starOf (wordD d r) = false := by
      rcases Bool.eq_false_or_eq_true (starOf (wordD d r)) with h' | h'
      · exfalso
        unfold starOf at h'
        rw [Bool.and_eq_true, decide_eq_true_eq, beq_iff_eq] at h'
        obtain ⟨b, t, e1, e2, e3⟩ := bt_at (wordD d r) ((wordD d r).size - 1) (by omega)
        have hb : b = 42 := UInt8.toNat_inj.1 (by have : (42 : UInt8).toNat = 42 := rfl; omega)
        subst hb
        have hm : (42 : UInt8) ∈ (wordD d r).toList := by
          have : (42 : UInt8) ∈ (wordD d r).toList.drop ((wordD d r).size - 1) := by rw [e1]; simp
          exact List.mem_of_mem_drop this
        rw [hl] at hm
        exact (word_letters h _ hm).2.2 rfl
      · exact h'
    refine ⟨hst, ?_⟩
    unfold bareOf
    rw [if_neg (by rw [hst]; simp)]
    exact ba_eq hl
def un93 (d : S93) : S93 := ⟨d.f0, false⟩
def stF : List S93 → Int → Int
  | [], st => st
  | d :: r, st => stF r (if starAt d r = true then st + 1 else st)
def lastF : List S93 → Nat → Int → Int
  | [], _, last => last
  | d :: r, i, last => lastF r (i + 1) (if starAt d r = true then (i : Int) else last)
theorem dgT : ∀ (D : List S93) (i : Nat) (out : List S93) (st last : Int), i + D.length ≤ 8 → (∀ d ∈ D, rightD d = true) → dgF (bwl D) i out st last = (out ++ D.map un93, stF D st, lastF D i last, 0)
  | [], i, out, st, last, _, _ => by simp [bwl, dgF, stF, lastF]
  | d :: r, i, out, st, last, hl, hr => by
    have hd := hr d (by simp)
    obtain ⟨h1, h2⟩ := star_word d r hd
    have hp := parse_text d.f0.f0 d.f0.f1 hd
    have hi : ¬ i = 8 := by simp at hl; omega
    have hdg : dgOf (wordD d r) = un93 d := by unfold dgOf; rw [h2, hp]; rfl
    rw [bwl, dgF, if_neg hi, h1, h2, hp, if_pos rfl, hdg, dgT r (i + 1) _ _ _ (by simp at hl; omega) (fun e he => hr e (by simp [he])), stF, lastF]
    simp
theorem un_all : ∀ (D : List S93), ordFrom false D = true → D.map un93 = D ∧ (∀ st, stF D st = st) ∧ (∀ i last, lastF D i last = last)
  | [], _ => ⟨rfl, fun _ => rfl, fun _ _ => rfl⟩
  | d :: r, h => by
    rw [ordFrom_cons, Bool.and_eq_true] at h
    have hf : d.f1 = false := by simpa using h.1
    rw [hf] at h
    obtain ⟨h1, h2, h3⟩ := un_all r h.2
    have hs : starAt d r = false := by unfold starAt; rw [hf]; rfl
    refine ⟨?_, fun st => ?_, fun i last => ?_⟩
    · rw [List.map_cons, h1]
      congr 1
      unfold un93
      obtain ⟨x, y⟩ := d
      simp only at hf
      rw [hf]
    · rw [stF, hs, if_neg (by simp), h2]
    · rw [lastF, hs, if_neg (by simp), h3]
theorem marks_of : ∀ (D : List S93), ordFrom true D = true → ∃ m : Nat, marked m (D.map un93) = D ∧ (∀ st, stF D st = if m = 0 then st else st + 1) ∧ (∀ i last, lastF D i last = if m = 0 then last else (i : Int) + m - 1) ∧ (∀ e t, D = e :: t → e.f1 = true → m ≠ 0)
  | [], _ => ⟨0, rfl, fun _ => rfl, fun _ _ => rfl, fun _ _ h => by cases h⟩
  | d :: r, h => by
    rw [ordFrom_cons, Bool.and_eq_true] at h
    cases hf : d.f1 with
    | false =>
      obtain ⟨h1, h2, h3⟩ := un_all (d :: r) (by rw [ordFrom_cons, hf]; rw [hf] at h; simpa using h.2)
      refine ⟨0, ?_, fun st => by rw [h2]; rfl, fun i last => by rw [h3]; rfl, fun e t he ht => ?_⟩
      · rw [h1]; rfl
      · cases he; rw [hf] at ht; cases ht
    | true =>
      rw [hf] at h
      cases hs : starAt d r with
      | true =>
        have hr : ordFrom false r = true := by
          cases r with
          | nil => rfl
          | cons e t =>
            unfold starAt at hs
            rw [hf] at hs
            have he : e.f1 = false := by simpa using hs
            have := h.2
            rw [ordFrom_cons, he] at this ⊢
            simpa using this
        obtain ⟨h1, h2, h3⟩ := un_all r hr
        refine ⟨1, ?_, fun st => ?_, fun i last => ?_, fun _ _ _ _ => by omega⟩
        · rw [List.map_cons, h1]
          obtain ⟨x, y⟩ := d
          simp only at hf
          rw [hf]
          cases r <;> rfl
        · rw [stF, hs, if_pos rfl, h2]; rfl
        · rw [lastF, hs, if_pos rfl, h3, if_neg (by omega)]; omega
      | false =>
        obtain ⟨m, g1, g2, g3, g4⟩ := marks_of r h.2
        have hm : m ≠ 0 := by
          cases r with
          | nil => unfold starAt at hs; rw [hf] at hs; cases hs
          | cons e t =>
            unfold starAt at hs
            rw [hf] at hs
            exact g4 e t rfl (by simpa using hs)
        refine ⟨m + 1, ?_, fun st => ?_, fun i last => ?_, fun _ _ _ _ => by omega⟩
        · rw [List.map_cons, marked, g1]
          obtain ⟨x, y⟩ := d
          simp only at hf
          rw [hf]
          rfl
        · rw [stF, hs, if_neg (by simp), g2, if_neg hm, if_neg (by omega)]
        · rw [lastF, hs, if_neg (by simp), g3, if_neg hm, if_neg (by omega)]; omega
theorem digT_len : ∀ D : List S93, (∀ d ∈ D, rightD d = true) → (digT D).length ≤ 12 * D.length
  | [], _ => Nat.zero_le _
  | d :: r, h => by
    have hd := h d (by simp)
    have h1 := digT_len r (fun e he => h e (by simp [he]))
    rw [digT_eq d r hd, wordD_list]
    have h2 := text_size d.f0.f0 d.f0.f1
    have h3 := right_size hd
    have h4 := len_eq (textS d.f0.f0 d.f0.f1)
    simp only [List.length_cons, List.length_append]
    split <;> simp <;> omega
theorem parse_of_text (a : ByteArray) (n : Int) (b : ByteArray) (m : Int) (D : List S93) (h : pathB a n b m D = true) (K : Nat) (hK : 30000 ≤ K) :
    path_Parse.f K ⟨(pathT a n b m D).toArray⟩ = some (a, n, b, m, true, false, D, 0) := by
  unfold pathB at h
  simp only [Bool.and_eq_true] at h
  obtain ⟨ha, hb, hD, hO⟩ := h
  have hD' : ∀ d ∈ D, rightD d = true := List.all_eq_true.1 hD
  unfold ordB at hO
  rw [Bool.and_eq_true, decide_eq_true_eq] at hO
  obtain ⟨T, hT⟩ : ∃ T : ByteArray, T = ⟨(pathT a n b m D).toArray⟩ := ⟨_, rfl⟩
  rw [← hT]
  have hTl : T.toList = (textS b m).toList ++ 62 :: ((textS a n).toList ++ digT D) := by
    rw [hT, Go.ByteArray.toList_eq]
    show pathT a n b m D = _
    unfold pathT
    rw [word_text ha, word_text hb, ← Go.ByteArray.toList_eq, ← Go.ByteArray.toList_eq]
  have hsz : T.size ≤ 200 := by
    rw [← len_eq, hTl]
    have h1 := digT_len D hD'
    have h2 := text_size a n
    have h3 := text_size b m
    have h4 := right_size ha
    have h5 := right_size hb
    have h6 := len_eq (textS a n)
    have h7 := len_eq (textS b m)
    simp only [List.length_cons, List.length_append]
    omega
  have hix : Lib.indexByte T.toList 62 = ((textS b m).toList.length : Int) := by
    rw [hTl]
    exact index_app_c 62 _ _ (fun x hx => (word_letters hb x hx).1)
  have hH : cutHas T 62 = true := by unfold cutHas; rw [← Go.ByteArray.toList_eq, hix]; exact decide_eq_true (by omega)
  have hI : idxOf T 62 = (textS b m).toList.length := by unfold idxOf; rw [← Go.ByteArray.toList_eq, hix]; rfl
  have hA : cutA T 62 = textS b m := by
    unfold cutA
    rw [if_pos hH, hI]
    apply ba_eq
    rw [toList_ext, List.drop_zero, hTl, List.take_append_of_le_length (Nat.le_refl _), List.take_length]
  have hB : (cutB T 62).toList = (textS a n).toList ++ digT D := by
    unfold cutB
    rw [if_pos hH, hI, toList_ext, List.take_of_length_le (by rw [len_eq]; omega), hTl]
    rw [show (textS b m).toList ++ 62 :: ((textS a n).toList ++ digT D) = ((textS b m).toList ++ [62]) ++ ((textS a n).toList ++ digT D) by simp]
    rw [List.drop_append_of_le_length (by simp), List.drop_of_length_le (by simp)]
    rfl
  have hW : splitS (cutB T 62) ⟨#[44]⟩ = textS a n :: bwl D := by
    apply map_inj
    rw [split_list, hB, split_words D _ (fun x hx => (word_letters ha x hx).2.1) hD']
    rfl
  have hBs : (cutB T 62).size ≤ 200 := by
    have h0 := congrArg List.length hB
    have h1 := congrArg List.length hTl
    rw [len_eq] at h0 h1
    simp only [List.length_append, List.length_cons] at h0 h1
    omega
  obtain ⟨s1, s2, s3⟩ := split_sizes (cutB T 62) 44
  rw [hW] at s2 s3
  unfold path_Parse.f strings_Cut.f
  have h62 : (⟨#[62]⟩ : ByteArray).size = 1 := rfl
  have ho : oneB ⟨#[62]⟩ = 62 := rfl
  rw [if_pos (⟨h62, by omega⟩ : _ ∧ _)]
  simp only [Option.bind_some, ho]
  rw [if_pos hH]
  unfold strings_Split.f
  rw [if_pos (⟨by decide, by omega⟩ : _ ∧ _), hW, hA]
  simp only [Option.bind_some]
  have e1 : call_Parse.f (textS b m) = some (b, m, 0) := by
    unfold call_Parse.f
    rw [if_pos (by have := text_size b m; have := right_size hb; omega), parse_text b m hb]
  have e2 : call_Parse.f (textS a n) = some (a, n, 0) := by
    unfold call_Parse.f
    rw [if_pos (by have := text_size a n; have := right_size ha; omega), parse_text a n ha]
  rw [e1]
  simp only [Option.bind_some]
  rw [if_pos (by trivial), if_pos (show 0 < ((textS a n :: bwl D).length : Int) by first | (simp; done) | (simp; omega)), show rdOf ByteArray.empty (textS a n :: bwl D) 0 = textS a n from rfl, e2]
  simp only [Option.bind_some]
  rw [if_pos (by trivial), if_pos (show 1 ≤ ((textS a n :: bwl D).length : Int) by first | (simp; done) | (simp; omega)), show (textS a n :: bwl D).drop 1 = bwl D from rfl,
    digis_f (bwl D) (by simp at s2; omega) (fun x hx => by have := s3 x (by simp [hx]); omega) K (by simp at s2; omega), dgT D 0 [] 0 (-1) (by omega) hD']
  have hde : digisEnd ([] ++ D.map un93, stF D 0, lastF D 0 (-1), 0) = (marked (lastF D 0 (-1) + 1).toNat (D.map un93), stF D 0, 0) := by
    unfold digisEnd
    rw [if_pos rfl, List.nil_append]
  rw [hde]
  simp only [Option.bind_some, ↓reduceIte]
  obtain ⟨q, g1, g2, g3, g4⟩ := marks_of D hO.1
  rw [g2 0, g3 0 (-1)]
  by_cases hq : q = 0
  · subst hq
    rw [if_pos rfl, if_pos rfl, if_neg (by decide), show ((-1 : Int) + 1).toNat = 0 from rfl, g1]
  · rw [if_neg hq, if_neg hq, if_neg (by decide), show (((0 : Nat) : Int) + (q : Int) - 1 + 1).toNat = q by omega, g1]
theorem PathTexts : ∀ (a0_0 : ByteArray) (a0_1 : Int) (a0_2 : ByteArray) (a0_3 : Int) (a0_4 a0_5 : Bool) (l0_6 : List S93), a0_0.size ≤ 140737488351232 → (Lit.int .i64 a0_1).wf = true → a0_2.size ≤ 140737488351232 → (Lit.int .i64 a0_3).wf = true →
    (∀ d ∈ l0_6, d.f0.f0.size ≤ maxLen ∧ (Lit.int .i64 d.f0.f1).wf = true) → ∃ k, squelchlaw05_PathTexts.f k a0_0 a0_1 a0_2 a0_3 a0_4 a0_5 l0_6 = some true := by
  intro a n b m x y D h1 _ h2 _ h3
  refine ⟨40001, ?_⟩
  unfold squelchlaw05_PathTexts.f squelchlaw05_great.f
  rw [show squelchlaw05_awake.f = some true from rfl]
  simp only [Option.bind_some]
  rw [if_pos (by trivial)]
  by_cases hl : (D.length : Int) > 30
  · rw [if_pos (decide_eq_true hl), squelchlaw05_PathTexts.j0, if_pos (by trivial)]
  · rw [if_neg (by rw [decide_eq_false hl]; simp)]
    have hs : sizesOk a b D = true := by
      unfold sizesOk
      simp only [Bool.and_eq_true, decide_eq_true_eq, List.all_eq_true]
      exact ⟨by omega, by omega, fun d hd => by have h4 := (h3 d hd).1; have : maxLen = 9223372036854775807 := rfl; omega, by omega⟩
    have hR : path_Right.f a n b m x y D = some (pathB a n b m D) := by unfold path_Right.f; rw [if_pos hs]
    rw [hR]
    simp only [Option.bind_some]
    rw [squelchlaw05_PathTexts.j0]
    cases hp : pathB a n b m D with
    | false => rw [if_pos (by trivial)]
    | true =>
      rw [if_neg (by decide)]
      have hT : ∀ u v, path_Text.f a n b m u v D = some ⟨(pathT a n b m D).toArray⟩ := fun u v => by unfold path_Text.f; rw [if_pos hs, if_pos hp]
      rw [hT x y]
      simp only [Option.bind_some]
      rw [parse_of_text a n b m D hp 40000 (by omega)]
      simp only [Option.bind_some]
      rw [if_pos (by trivial), plain_f _ _ _ _ _ _ D (by omega) 40000 (by omega)]
      simp only [Option.bind_some]
      rw [same_f _ (by simp; omega) 40000 (by simp; omega)]
      simp only [Option.bind_some]
      rw [if_pos (by trivial), hT true false]
      simp only [Option.bind_some]
      simp
end Go.Proofs.YtpmieapgbdbabaaDoor.Pure
end

section
/- The statement that the law squelchlaw05.PathTexts is true of every input, its arguments left as they were: the row, out of its walk and its plain law. Written by a program of this session (wip/pp/row.py). -/
namespace Go.Proofs.YtpmieapgbdbabaaDoor.pathTextsRow
open Go.ChangeShapes Go.WideShapes Go.ChangeAt Go.RowKit
open Go.ChangeMaps (open_string shut_string)
set_option linter.unusedVariables false
set_option linter.unusedSimpArgs false
theorem own : ownKnob Tryd.prog.godebug = none := by kernel_rfl
theorem laidOut : laidOutB Tryd.prog = true := by kernel_rfl
theorem cells3 : Tryd.prog.cellsOf 3 = 1 := by kernel_rfl
theorem cells4 : Tryd.prog.cellsOf 4 = 1 := by kernel_rfl
theorem cells9 : Tryd.prog.cellsOf 9 = 1 := by kernel_rfl
theorem cells23 : Tryd.prog.cellsOf 23 = 2 := by kernel_rfl
theorem cells24 : Tryd.prog.cellsOf 24 = 1 := by kernel_rfl
theorem cells26 : Tryd.prog.cellsOf 26 = 7 := by kernel_rfl
theorem cells93 : Tryd.prog.cellsOf 93 = 3 := by kernel_rfl
set_option maxRecDepth 100000 in
theorem open23 {H : Type} {enc : TypeId × Value → H} {w : World} {fuel : Nat} {cs : List Value} {x : DataW H × List MemPlace} (h : DataW.trod enc Tryd.prog w 0 (fun _ => true) true fuel 23 cs = some x) :
    ∃ (a_0 : ByteArray) (a_1 : Int), cs = [.string a_0, .int .i64 a_1] ∧ x.1 = (.agg [(.lit (.string a_0.data.toList)), (.lit (.int .i64 a_1))]) ∧ a_0.size ≤ maxLen ∧ (Lit.int .i64 a_1).wf = true := by
  obtain ⟨xs, n, -, rfl, hc, hl, hg⟩ := DataW.trod_struct Tryd.underlying23 h
  rw [cells23] at hc
  obtain ⟨c0, c1, rfl⟩ : ∃ c0 c1, cs = [c0, c1] := by
    match cs, hc with
    | [c0, c1], _ => exact ⟨_, _, rfl⟩
  obtain ⟨y0, y1, rfl⟩ : ∃ y0 y1, xs = [y0, y1] := by
    match xs, hl with
    | [y0, y1], _ => exact ⟨_, _, rfl⟩
  clear h hc hl
  have g0 : DataW.trod enc Tryd.prog w 0 (fun _ => true) true n 9 [c0] = some y0 := by
    have z := hg 0 _ rfl
    simp only [cells9, List.drop_zero, List.drop_succ_cons, List.take_succ_cons, List.take_zero, List.getElem?_cons_zero, List.getElem?_cons_succ] at z
    exact z
  have g1 : DataW.trod enc Tryd.prog w 0 (fun _ => true) true n 3 [c1] = some y1 := by
    have z := hg 1 _ rfl
    simp only [cells3, List.drop_zero, List.drop_succ_cons, List.take_succ_cons, List.take_zero, List.getElem?_cons_zero, List.getElem?_cons_succ] at z
    exact z
  clear hg
  obtain ⟨a_0, e0, rfl, wa_0⟩ := DataW.trod_string Tryd.underlying9 g0
  simp only [List.cons.injEq, and_true] at e0
  subst e0
  obtain ⟨a_1, e1, rfl, wa_1⟩ := DataW.trod_int Tryd.underlying3 g1
  simp only [List.cons.injEq, and_true] at e1
  subst e1
  exact ⟨a_0, a_1, rfl, by simp only [List.map_cons, List.map_nil], wa_0, wa_1⟩
set_option maxRecDepth 100000 in
theorem open93 {H : Type} {enc : TypeId × Value → H} {w : World} {fuel : Nat} {cs : List Value} {x : DataW H × List MemPlace} (h : DataW.trod enc Tryd.prog w 0 (fun _ => true) true fuel 93 cs = some x) :
    ∃ (a_0_0 : ByteArray) (a_0_1 : Int) (a_1 : Bool), cs = [.string a_0_0, .int .i64 a_0_1, .bool a_1] ∧ x.1 = (.agg [(.agg [(.lit (.string a_0_0.data.toList)), (.lit (.int .i64 a_0_1))]), (.lit (.bool a_1))]) ∧ a_0_0.size ≤ maxLen ∧ (Lit.int .i64 a_0_1).wf = true ∧ True := by
  obtain ⟨xs, n, -, rfl, hc, hl, hg⟩ := DataW.trod_struct Tryd.underlying93 h
  rw [cells93] at hc
  obtain ⟨c0, c1, c2, rfl⟩ : ∃ c0 c1 c2, cs = [c0, c1, c2] := by
    match cs, hc with
    | [c0, c1, c2], _ => exact ⟨_, _, _, rfl⟩
  obtain ⟨y0, y1, rfl⟩ : ∃ y0 y1, xs = [y0, y1] := by
    match xs, hl with
    | [y0, y1], _ => exact ⟨_, _, rfl⟩
  clear h hc hl
  have g0 : DataW.trod enc Tryd.prog w 0 (fun _ => true) true n 23 [c0, c1] = some y0 := by
    have z := hg 0 _ rfl
    simp only [cells23, List.drop_zero, List.drop_succ_cons, List.take_succ_cons, List.take_zero, List.getElem?_cons_zero, List.getElem?_cons_succ] at z
    exact z
  have g1 : DataW.trod enc Tryd.prog w 0 (fun _ => true) true n 4 [c2] = some y1 := by
    have z := hg 1 _ rfl
    simp only [cells4, List.drop_zero, List.drop_succ_cons, List.take_succ_cons, List.take_zero, List.getElem?_cons_zero, List.getElem?_cons_succ] at z
    exact z
  clear hg
  obtain ⟨a_0_0, a_0_1, e0, d0, wa_0_0, wa_0_1⟩ := open23 g0
  simp only [List.cons.injEq, and_true] at e0
  obtain ⟨rfl, rfl⟩ := e0
  obtain ⟨a_1, e1, rfl⟩ := DataW.trod_bool Tryd.underlying4 g1
  simp only [List.cons.injEq, and_true] at e1
  subst e1
  exact ⟨a_0_0, a_0_1, a_1, rfl, by simp only [List.map_cons, List.map_nil, d0], wa_0_0, wa_0_1, trivial⟩
set_option maxRecDepth 100000 in
theorem open26 {H : Type} {enc : TypeId × Value → H} {w : World} {fuel : Nat} {cs : List Value} {x : DataW H × List MemPlace} (h : DataW.trod enc Tryd.prog w 0 (fun _ => true) true fuel 26 cs = some x) :
    ∃ (a_0_0 : ByteArray) (a_0_1 : Int) (a_1_0 : ByteArray) (a_1_1 : Int) (a_2 : Bool) (a_3 : Bool) (Aa_4 : Option Addr) (ca_4 : Nat) (a_4 : List QAll.S93) (Da_4 : DataW H), cs = [.string a_0_0, .int .i64 a_0_1, .string a_1_0, .int .i64 a_1_1, .bool a_2, .bool a_3, .slice Aa_4 a_4.length ca_4] ∧ x.1 = (.agg [(.agg [(.lit (.string a_0_0.data.toList)), (.lit (.int .i64 a_0_1))]), (.agg [(.lit (.string a_1_0.data.toList)), (.lit (.int .i64 a_1_1))]), (.lit (.bool a_2)), (.lit (.bool a_3)), Da_4]) ∧ a_0_0.size ≤ maxLen ∧ (Lit.int .i64 a_0_1).wf = true ∧ a_1_0.size ≤ maxLen ∧ (Lit.int .i64 a_1_1).wf = true ∧ True ∧ True ∧ (QAll.k93.C w Aa_4 a_4.length a_4 ∧ a_4.length ≤ ca_4 ∧ ∀ d ∈ a_4, d.f0.f0.size ≤ maxLen ∧ (Lit.int .i64 d.f0.f1).wf = true) := by
  obtain ⟨xs, n, -, rfl, hc, hl, hg⟩ := DataW.trod_struct Tryd.underlying26 h
  rw [cells26] at hc
  obtain ⟨c0, c1, c2, c3, c4, c5, c6, rfl⟩ : ∃ c0 c1 c2 c3 c4 c5 c6, cs = [c0, c1, c2, c3, c4, c5, c6] := by
    match cs, hc with
    | [c0, c1, c2, c3, c4, c5, c6], _ => exact ⟨_, _, _, _, _, _, _, rfl⟩
  obtain ⟨y0, y1, y2, y3, y4, rfl⟩ : ∃ y0 y1 y2 y3 y4, xs = [y0, y1, y2, y3, y4] := by
    match xs, hl with
    | [y0, y1, y2, y3, y4], _ => exact ⟨_, _, _, _, _, rfl⟩
  clear h hc hl
  have g0 : DataW.trod enc Tryd.prog w 0 (fun _ => true) true n 23 [c0, c1] = some y0 := by
    have z := hg 0 _ rfl
    simp only [cells23, List.drop_zero, List.drop_succ_cons, List.take_succ_cons, List.take_zero, List.getElem?_cons_zero, List.getElem?_cons_succ] at z
    exact z
  have g1 : DataW.trod enc Tryd.prog w 0 (fun _ => true) true n 23 [c2, c3] = some y1 := by
    have z := hg 1 _ rfl
    simp only [cells23, List.drop_zero, List.drop_succ_cons, List.take_succ_cons, List.take_zero, List.getElem?_cons_zero, List.getElem?_cons_succ] at z
    exact z
  have g2 : DataW.trod enc Tryd.prog w 0 (fun _ => true) true n 4 [c4] = some y2 := by
    have z := hg 2 _ rfl
    simp only [cells4, List.drop_zero, List.drop_succ_cons, List.take_succ_cons, List.take_zero, List.getElem?_cons_zero, List.getElem?_cons_succ] at z
    exact z
  have g3 : DataW.trod enc Tryd.prog w 0 (fun _ => true) true n 4 [c5] = some y3 := by
    have z := hg 3 _ rfl
    simp only [cells4, List.drop_zero, List.drop_succ_cons, List.take_succ_cons, List.take_zero, List.getElem?_cons_zero, List.getElem?_cons_succ] at z
    exact z
  have g4 : DataW.trod enc Tryd.prog w 0 (fun _ => true) true n 24 [c6] = some y4 := by
    have z := hg 4 _ rfl
    simp only [cells24, List.drop_zero, List.drop_succ_cons, List.take_succ_cons, List.take_zero, List.getElem?_cons_zero, List.getElem?_cons_succ] at z
    exact z
  clear hg
  obtain ⟨a_0_0, a_0_1, e0, d0, wa_0_0, wa_0_1⟩ := open23 g0
  simp only [List.cons.injEq, and_true] at e0
  obtain ⟨rfl, rfl⟩ := e0
  obtain ⟨a_1_0, a_1_1, e1, d1, wa_1_0, wa_1_1⟩ := open23 g1
  simp only [List.cons.injEq, and_true] at e1
  obtain ⟨rfl, rfl⟩ := e1
  obtain ⟨a_2, e2, rfl⟩ := DataW.trod_bool Tryd.underlying4 g2
  simp only [List.cons.injEq, and_true] at e2
  subst e2
  obtain ⟨a_3, e3, rfl⟩ := DataW.trod_bool Tryd.underlying4 g3
  simp only [List.cons.injEq, and_true] at e3
  subst e3
  obtain ⟨Aa_4, ca_4, a_4, e4, wa_4⟩ := QAll.rows_of_trod QAll.k93 Tryd.underlying24 cells93 (fun d => d.f0.f0.size ≤ maxLen ∧ (Lit.int .i64 d.f0.f1).wf = true) (fun n cs' z hz => by
    obtain ⟨b_0_0, b_0_1, b_1, rfl, -, wb_0_0, wb_0_1, wb_1⟩ := open93 hz
    exact ⟨(⟨⟨b_0_0, b_0_1⟩, b_1⟩ : QAll.S93), QAll.k93_mk w _, rfl, wb_0_0, wb_0_1⟩) g4
  simp only [List.cons.injEq, and_true] at e4
  subst e4
  exact ⟨a_0_0, a_0_1, a_1_0, a_1_1, a_2, a_3, Aa_4, ca_4, a_4, y4.1, rfl, by simp only [List.map_cons, List.map_nil, d0, d1], wa_0_0, wa_0_1, wa_1_0, wa_1_1, trivial, trivial, wa_4⟩
theorem met (os : Os) (args : Array Value) : laidMetH Tryd.prog Rows.pathTextsRow.laid ((World.laidAll Tryd.prog os Rows.pathTextsRow.laid).forCall (fun _ _ => 0) ⟨#[], args, []⟩).memory :=
  (show laidMet Tryd.prog Rows.pathTextsRow.laid _ from laidMet_laidAll _ (by kernel_rfl) (by kernel_rfl))
set_option maxRecDepth 100000 in
theorem lifted (os : Os) (started : os.Started) (H : Type) (enc : TypeId × Value → H) :
    ReturnsInHanded {} Tryd.checked os 14 .any (fun w args => (Rows.pathTextsSpec.pre enc Tryd.prog Tryd.f14 Rows.pathTextsRow.domain false w args ∧ laidMetH Tryd.prog Rows.pathTextsRow.laid w) ∧ sizedMet enc Tryd.prog Tryd.f14 (OpenSpec.ofChange Rows.pathTextsSpec) false w args) (Rows.pathTextsSpec.post enc Tryd.prog Tryd.f14 false true false false) := by
  refine QAll.returns_laid_shaped (C := Tryd.checked) own started (by kernel_rfl) Tryd.func14
    (ChangeSpec.witness_at (enc := enc) (C := Tryd.checked) (os := os) (X := fun w _ => laidMetH Tryd.prog Rows.pathTextsRow.laid w) false (World.laidAll Tryd.prog os Rows.pathTextsRow.laid) #[.agg #[.string ByteArray.empty, .int .i64 0, .string ByteArray.empty, .int .i64 0, .bool false, .bool false, .slice none 0 0]] 8 (World.laidAll_os _ _ _) (by kernel_rfl) (by kernel_rfl) (by kernel_rfl) (by kernel_rfl) (by kernel_rfl) (met os _)) ?_
  intro W base args ds gs before hval0 hW hcnd hsz0 hL hsh
  have hE : QAll.EnvW W := QAll.env_of_laid hsh (show laidMet Tryd.prog Rows.pathTextsRow.laid W from hL) (by simp [Rows.pathTextsRow]) (by simp [Rows.pathTextsRow]) (by simp [Rows.pathTextsRow])
  have hsz : (DataW.weightsEach Tryd.prog (Tryd.f14.params.toList ++ Rows.pathTextsSpec.plain.varTypes Tryd.prog) (ds ++ gs)).all (· ≤ reachBytes) = true := hsz0
  have hval : ∀ (j : Nat) t v, Tryd.f14.params[j]? = some t → args[j]? = some v → Value.okWide Tryd.prog W .any base t v := hval0
  have hW' := hW
  obtain ⟨p, q, hA0, hV, rfl, hfz, hnd⟩ := hW
  have hA : DataW.TrodAll enc Tryd.prog W 0 (fun _ => true) true Tryd.f14.params.toList args.toList ds p := hA0
  rw [Tryd.params14] at hA hval hsz
  obtain ⟨v0, vs0, d0, ds0, p0, q0, hargs, rfl, rfl, h0, r0⟩ := trodAll_cons hA
  obtain ⟨rfl, rfl, rfl⟩ := trodAll_nil r0
  obtain rfl : args = #[v0] := by cases args; simp_all
  obtain ⟨rfl, rfl⟩ := trodVars_none hV
  have k0 := h0
  have lt0 : ∀ x ∈ p0, x.block < W.heap.size := by obtain ⟨m, hm⟩ := k0; exact DataW.trod_lt m _ _ _ hm
  obtain ⟨cs0, rfl, -⟩ := okWide_struct Tryd.underlying26 (hval 0 26 v0 rfl rfl)
  obtain ⟨fu0, hf0⟩ := h0
  obtain ⟨a0_0_0, a0_0_1, a0_1_0, a0_1_1, a0_2, a0_3, Aa0_4, ca0_4, a0_4, Da0_4, e0, hd0, wa0_0_0, wa0_0_1, wa0_1_0, wa0_1_1, wa0_2, wa0_3, wa0_4⟩ := open26 hf0
  replace e0 : cs0 = #[.string a0_0_0, .int .i64 a0_0_1, .string a0_1_0, .int .i64 a0_1_1, .bool a0_2, .bool a0_3, .slice Aa0_4 a0_4.length ca0_4] := by apply Array.ext'; simpa [Value.cells] using e0
  subst e0
  replace hd0 : d0 = (.agg [(.agg [(.lit (.string a0_0_0.data.toList)), (.lit (.int .i64 a0_0_1))]), (.agg [(.lit (.string a0_1_0.data.toList)), (.lit (.int .i64 a0_1_1))]), (.lit (.bool a0_2)), (.lit (.bool a0_3)), Da0_4]) := hd0
  subst hd0
  have hz : a0_0_0.size ≤ 140737488351232 ∧ a0_1_0.size ≤ 140737488351232 := by
    have z := hsz
    skip
    simp [DataW.weightsEach, DataW.weights, reachBytes, Tryd.underlying3, Tryd.underlying4, Tryd.underlying9, Tryd.underlying23, Tryd.underlying24, Tryd.underlying26, Tryd.underlying93] at z
    first | omega | exact ⟨of_decide_eq_true z.1, of_decide_eq_true z.2⟩ | exact ⟨of_decide_eq_true z.1, of_decide_eq_true z.2.1⟩
  obtain ⟨za0_0_0, za0_1_0⟩ := hz
  clear hA0 hval0 hsz0 hsz
  obtain ⟨k, hp⟩ := Pure.PathTexts a0_0_0 a0_0_1 a0_1_0 a0_1_1 a0_2 a0_3 a0_4 za0_0_0 wa0_0_1 za0_1_0 wa0_1_1 wa0_4.2.2
  refine (QAll.squelchlaw05_PathTexts.calls k a0_0_0 a0_0_1 a0_1_0 a0_1_1 a0_2 a0_3 Aa0_4 ca0_4 a0_4 true W hE rfl wa0_4.1 wa0_4.2.1 hp).mono fun e W' ⟨he, bel⟩ => ?_
  subst he
  exact ⟨_, rfl, _, _, _, [], _, [], hW', trodAll_mk1 (shut_bool Tryd.underlying4 _), (trodAll_cons_mk (Below.trod laidOut (by kernel_rfl) (of_decide_eq_true (by kernel_rfl)) k0 bel lt0) trodAll_mk0), rfl, bel.frame _, fun h => by cases h⟩
theorem over : Rows.pathTextsRow.holds Tryd.pinned (OpenSpec.ofChange Rows.pathTextsSpec) :=
  OpenClaim.holds_of_wide 14 Tryd.f14 rfl rfl rfl rfl rfl rfl rfl ⟨rfl, rfl, rfl, rfl, rfl⟩ rfl rfl rfl rfl rfl (by kernel_rfl) Tryd.func14 (by kernel_rfl)
    (of_decide_eq_true (by kernel_rfl)) (by unfold Func.isWrapper; first | (rw [if_pos (by decide +kernel)]; kernel_rfl) | (rw [if_neg (by decide +kernel)]; exact ⟨rfl, rfl⟩))
    (fun os started H enc _ => lifted os started H enc)
theorem card : Rows.PathTextsCardSaid :=
  Claim7.holds_tied_plain_at .later [] [.data, .data, .data, .data, .sentinel, .sentinel, .pinned] true (true, "b63f2f92baa42f5091e235388c6ae0d54991875acb84ccae606eb7f7e9e6d94e") true
    over (fun _ h => by cases h) (by kernel_rfl) (fun _ h => by cases h) pathTexts_row_tie rfl ⟨rfl, rfl⟩ (by kernel_rfl) rfl
    (fun f fn hf hfn => by
      obtain rfl : f = 14 := Option.some.inj ((show Tryd.prog.funcNamed "squelch/squelchlaw05.PathTexts" = some 14 by kernel_rfl).symm.trans hf) |>.symm
      obtain rfl : fn = Tryd.f14 := (Option.some.inj (Tryd.func14.symm.trans hfn)).symm
      exact ⟨by kernel_rfl, fun j t ht => by
        rw [Tryd.params14] at ht
        have hm := Array.mem_of_getElem? ht
        simp at hm
        rcases hm with rfl
        · exact (show Tryd.prog.wantsStandIn 26 = false by kernel_rfl)
      ⟩)
    (by kernel_rfl)
end Go.Proofs.YtpmieapgbdbabaaDoor.pathTextsRow
namespace Go.Proofs.YtpmieapgbdbabaaDoor
theorem pathTexts_holds : Rows.PathTextsCardSaid := pathTextsRow.card
#print axioms pathTexts_holds
end Go.Proofs.YtpmieapgbdbabaaDoor
end
