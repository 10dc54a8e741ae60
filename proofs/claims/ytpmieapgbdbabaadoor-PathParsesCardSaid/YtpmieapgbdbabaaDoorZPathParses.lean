/- The row of the law PathParses, out of its walks and its plain law. -/
import Derived.Test.YtpmieapgbdbabaaDoorMPathParses0
import Derived.Lib.SliceRun
import Derived.Test.YtpmieapgbdbabaaDoorMPathParses2
import Derived.Test.YtpmieapgbdbabaaDoorMPathParses3
import Derived.Test.YtpmieapgbdbabaaDoorMPathParses1
import Derived.Test.YtpmieapgbdbabaaDoorRows
import Derived.Test.YtpmieapgbdbabaaDoorTie
import Derived.Test.YtpmieapgbdbabaaDoorCards
import Derived.WalkKit
import Derived.ProofKit
import Derived.OpenShut
import Derived.ShutString
import Derived.ChangeOld
import Derived.Below
import Derived.SizedLaws
import Derived.Lib.SmallJoins
import Derived.Deep.Slices
import Derived.Deep.Fields
import Derived.ChangeSame
section
/- slices.Clone of digipeaters, walked by hand: the same ones, in new memory. -/
set_option linter.unusedVariables false
set_option linter.unusedSimpArgs false
namespace Go.Proofs.YtpmieapgbdbabaaDoor.QAll
open Go.RowKit Go.Proofs.YtpmieapgbdbabaaDoorW.PrintWords Go.Proofs.YtpmieapgbdbabaaDoorW.PrintLast Go.Proofs.YtpmieapgbdbabaaDoorW.PrintMore
def path_Digi_59.f (l0 : List S93) : Option (List S93) := if l0.length ≤ 1000000 then some l0 else none
set_option maxHeartbeats 1000000 in
set_option maxRecDepth 100000 in
theorem path_Digi_59.calls (A0 : Option Addr) (c0 : Nat) (l0 : List (S93)) (r : List S93) (w : World) (hr0 : Kd.C k93 w A0 l0.length l0) (hc0 : l0.length ≤ c0) (h : path_Digi_59.f l0 = some r) :
    Calls Tryd.prog 59 #[.slice A0 l0.length c0] w fun e w' => ∃ v0_ : Value, e = .returned (v0_) ∧ Kd.R k93 93 w' w.heap.size (fun _ => True) v0_ r ∧ Below w.heap.size w w' := by
  unfold path_Digi_59.f at h
  split at h
  case isFalse => cases h
  rename_i hl
  obtain rfl := Option.some.inj h
  have HR := Aside0.mk hr0
  clear hr0 h
  have hu93 := Tryd.underlying93
  have hu23 := Tryd.underlying23
  have hA : ∀ a l c W, (binOp .eql 24 (.slice a l c) (.slice none 0 0)).run Tryd.prog W = .ok (.bool a.isNone) W := fun a l c W => Lib.run_eql_slice_nil W 24 93 a l c 0 0 Tryd.underlying24
  cases A0 with
  | none =>
    have hnil : l0 = [] := by
      cases l0 with
      | nil => rfl
      | cons x r => obtain ⟨ad, e, _⟩ := at_T93 HR.out 0 (Int.le_refl _) (by simp); cases e
    subst hnil
    go_enter Tryd.func59, Tryd.ntmps59
    go_wp2_with (fail)
    go_ret
    exact ⟨_, rfl, Kd.R_nil _ _ _ _ _, Below.refl _ _⟩
  | some ad =>
    have HB := Aside0.mk (Below.refl w.heap.size w)
    have HL := Aside0.mk hl
    go_enter Tryd.func59, Tryd.ntmps59
    go_wp2_with (first | ((with_reducible refine gate_dst (N := 5) rfl ?_); refine Kd.R_lit k93 _ 93 ?hg (N := 5) ?hd (xs := ([] : List (S93))) (inner := []) (ok := fun _ => True) (okp := fun _ => True) ?hr ?hp (fun _ hk => hk) trivial (Below.refl _ _) (Nat.le_refl _) (by simp) ?_; (case hd => rfl); (case hg => rfl); (case hr => first | (go_simp; done) | (go_simp; rfl)); (case hp => exact (Reps.none _ _)); intro v242 w5 ho6 hb hg_ hnew_; have n0_ := Aside0.mk (Kd.R_lower ho6 (below_size HB.out)); have n2_ := Aside0.mk (below_step HB.out hb); clear HB; have HO := n0_; have HB := n2_; clear n0_ n2_; clear hb hg_ hnew_ ho6) | ((with_reducible refine gate_builtin (b := .append) (xs := #[.tmp 5, .tmp 6]) rfl ?_); at_builtin; refine Kd.R_append_rows k93 (w0 := w) w.heap.size rfl (.tmp 5) (.tmp 6) 24 93 (.agg #[(.string ⟨#[]⟩), (.int .i64 0), (.bool false)]) 32 rfl Tryd.underlying24 info93 rfl (by decide) (by omega) v242 [] l0 _ _ _ (fun _ => True) (fun _ => False) rfl rfl ?aO ?aR (fun _ _ h => h) (fun _ h => h.elim) ?aF ?aB ?aS ?aL ?_; (case aR => exact Kd.C_below HR.out HB.out); (case aB => exact HB.out); (case aF => exact (fun _ _ => trivial)); (case aO => exact HO.out); (case aS => exact (below_size HB.out)); (case aL => have := HL.out; simp; omega); intro v245 w8 ho hb hg hat))
    go_ret
    exact ⟨_, rfl, ho, hb⟩
end Go.Proofs.YtpmieapgbdbabaaDoor.QAll
end

section
/- Walks, written by a program of this session (wip/pp): a Go function comes to what the Lean function beside it tells. -/
namespace Go.Proofs.YtpmieapgbdbabaaDoor.QAll
open Go.RowKit Go.Proofs.YtpmieapgbdbabaaDoorW.PrintWords Go.Proofs.YtpmieapgbdbabaaDoorW.PrintLast Go.Proofs.YtpmieapgbdbabaaDoorW.PrintMore
set_option linter.unusedVariables false
set_option linter.unusedSimpArgs false

def path_Sent.f (a0_0 : ByteArray) (a0_1 : Int) (a0_2 : ByteArray) (a0_3 : Int) (a0_4 : Bool) (a0_5 : Bool) (l0_6 : List (S93)) : Option (ByteArray × Int × ByteArray × Int × Bool × Bool × (List (S93)) × Bool) := (path_next.f a0_0 a0_1 a0_2 a0_3 a0_4 a0_5 l0_6).bind fun t107 => ((path_Digi_59.f l0_6).bind fun t108 => (if t107 < 0 then (some (a0_0, a0_1, a0_2, a0_3, a0_4, a0_5, t108, false)) else (if 0 ≤ t107 then (if t107 < (t108.length : Int) then (some (a0_0, a0_1, a0_2, a0_3, a0_4, a0_5, (t108.set (t107 : Int).toNat (⟨(⟨(rd_T93 t108 t107).f0.f0, (rd_T93 t108 t107).f0.f1⟩ : S23), true⟩ : S93)), true)) else (none)) else (none))))
set_option maxHeartbeats 8000000 in
set_option maxRecDepth 100000 in
theorem path_Sent.calls (a0_0 : ByteArray) (a0_1 : Int) (a0_2 : ByteArray) (a0_3 : Int) (a0_4 : Bool) (a0_5 : Bool) (A0_6 : Option Addr) (c0_6 : Nat) (l0_6 : List (S93)) (r1 : ByteArray) (r2 : Int) (r3 : ByteArray) (r4 : Int) (r5 : Bool) (r6 : Bool) (r7 : List (S93)) (r8 : Bool) (w : World) (hr0_6 : Kd.C k93 w A0_6 l0_6.length l0_6) (hc0_6 : l0_6.length ≤ c0_6) (h : path_Sent.f a0_0 a0_1 a0_2 a0_3 a0_4 a0_5 l0_6 = some (r1, r2, r3, r4, r5, r6, r7, r8)) :
  Calls Tryd.prog 20 #[.agg #[.string a0_0, .int .i64 a0_1, .string a0_2, .int .i64 a0_3, .bool a0_4, .bool a0_5, .slice A0_6 l0_6.length c0_6]] w fun e w' => ∃ v6_ : Value, e = .returned (.tuple #[.agg #[.string r1, .int .i64 r2, .string r3, .int .i64 r4, .bool r5, .bool r6, v6_], .bool r8]) ∧ Kd.R k93 93 w' w.heap.size (fun _ => True) v6_ r7 ∧ Below w.heap.size w w' := by
 have hu26 := Tryd.underlying26
 have HR0_6 := Aside0.mk hr0_6
 have HC0_6 := Aside0.mk hc0_6
 clear hr0_6 hc0_6
 have HB := Aside0.mk (Below.refl w.heap.size w)
 have H : ((path_next.f a0_0 a0_1 a0_2 a0_3 a0_4 a0_5 l0_6).bind fun t107 => ((path_Digi_59.f l0_6).bind fun t108 => (if t107 < 0 then (some (a0_0, a0_1, a0_2, a0_3, a0_4, a0_5, t108, false)) else (if 0 ≤ t107 then (if t107 < (t108.length : Int) then (some (a0_0, a0_1, a0_2, a0_3, a0_4, a0_5, (t108.set (t107 : Int).toNat (⟨(⟨(rd_T93 t108 t107).f0.f0, (rd_T93 t108 t107).f0.f1⟩ : S23), true⟩ : S93)), true)) else (none)) else (none))))) = some (r1, r2, r3, r4, r5, r6, r7, r8) := h
 clear h
 replace H := Option.bind_eq_some_iff.mp H
 obtain ⟨t107, A20, H⟩ := H
 replace H : ((path_Digi_59.f l0_6).bind fun t108 => (if t107 < 0 then (some (a0_0, a0_1, a0_2, a0_3, a0_4, a0_5, t108, false)) else (if 0 ≤ t107 then (if t107 < (t108.length : Int) then (some (a0_0, a0_1, a0_2, a0_3, a0_4, a0_5, (t108.set (t107 : Int).toNat (⟨(⟨(rd_T93 t108 t107).f0.f0, (rd_T93 t108 t107).f0.f1⟩ : S23), true⟩ : S93)), true)) else (none)) else (none)))) = some (r1, r2, r3, r4, r5, r6, r7, r8) := H
 have A2 := Aside0.mk A20
 clear A20
 replace H := Option.bind_eq_some_iff.mp H
 obtain ⟨t108, A30, H⟩ := H
 replace H : (if t107 < 0 then (some (a0_0, a0_1, a0_2, a0_3, a0_4, a0_5, t108, false)) else (if 0 ≤ t107 then (if t107 < (t108.length : Int) then (some (a0_0, a0_1, a0_2, a0_3, a0_4, a0_5, (t108.set (t107 : Int).toNat (⟨(⟨(rd_T93 t108 t107).f0.f0, (rd_T93 t108 t107).f0.f1⟩ : S23), true⟩ : S93)), true)) else (none)) else (none))) = some (r1, r2, r3, r4, r5, r6, r7, r8) := H
 have A3 := Aside0.mk A30
 clear A30
 by_cases c4 : t107 < 0
 ·rw [if_pos c4] at H
  have c4b0 : decide (t107 < 0) = true := decide_eq_true c4
  clear c4
  simp only [Option.some.injEq, Prod.mk.injEq] at H
  obtain ⟨rfl, rfl, rfl, rfl, rfl, rfl, rfl, rfl⟩ := H
  go_enter Tryd.func20, Tryd.ntmps20
  go_wp2_with (first | ((with_reducible refine gate_dst (N := 1) rfl ?_); refine box_event ?hg (N := 1) ?hd (cs := #[.string a0_0, .int .i64 a0_1, .string a0_2, .int .i64 a0_3, .bool a0_4, .bool a0_5, .slice A0_6 l0_6.length c0_6]) (t := 26) ?hr ?_; (case hd => rfl); (case hg => rfl); (case hr => first | (go_simp; done) | (go_simp; rfl)); intro gb105 hg w5 hbox hb; have n0_ := Aside0.mk (below_step (by repeat (first | (with_reducible first | exact HB.out | apply below_alloc | apply pw_below_drewN | apply below_drew1) | exact HB.out)) hb); have n1_ := Aside0.mk (hbox); have n2_ := Aside0.mk ((by rw [hg]; exact (below_size (by repeat (first | (with_reducible first | exact HB.out | apply below_alloc | apply pw_below_drewN | apply below_drew1) | exact HB.out))) : w.heap.size ≤ gb105)); have n3_ := Aside0.mk ((by rw [hg]; exact (below_size (by repeat (first | (with_reducible first | exact HB.out | apply below_alloc | apply pw_below_drewN | apply below_drew1) | exact HB.out))) : w.heap.size ≤ gb105)); clear HB; have HB := n0_; have BK105 := n1_; have GW105 := n2_; have GE105 := n3_; clear n0_ n1_ n2_ n3_; clear hb hbox hg) | ((with_reducible refine gate_dst (N := 2) rfl ?_); refine box_event ?hg (N := 2) ?hd (cs := #[.string (⟨#[]⟩ : ByteArray), .int .i64 0, .string (⟨#[]⟩ : ByteArray), .int .i64 0, .bool false, .bool false, .slice none 0 0]) (t := 26) ?hr ?_; (case hd => rfl); (case hg => rfl); (case hr => first | (go_simp; done) | (go_simp; rfl)); intro gb106 hg w6 hbox hb; have n0_ := Aside0.mk (blk_below (g := gb105) (o := .cells #[.string a0_0, .int .i64 a0_1, .string a0_2, .int .i64 a0_3, .bool a0_4, .bool a0_5, .slice A0_6 l0_6.length c0_6] 26 (0, 0)) (by (with_reducible repeat (first | refine blk_drewN ?_ _ | refine blk_drew ?_ | refine blk_alloc ?_ _)); exact BK105.out) hb); have n1_ := Aside0.mk (below_step (by repeat (first | (with_reducible first | exact HB.out | apply below_alloc | apply pw_below_drewN | apply below_drew1 | refine below_set ?_ GE105.out) | exact HB.out)) hb); have n2_ := Aside0.mk (hbox); have n3_ := Aside0.mk ((by rw [hg]; exact (below_size (by repeat (first | (with_reducible first | exact HB.out | apply below_alloc | apply pw_below_drewN | apply below_drew1 | refine below_set ?_ GE105.out) | exact HB.out))) : w.heap.size ≤ gb106)); have n4_ := Aside0.mk ((by rw [hg]; exact (below_size (by repeat (first | (with_reducible first | exact HB.out | apply below_alloc | apply pw_below_drewN | apply below_drew1 | refine below_set ?_ GE105.out) | exact HB.out))) : w.heap.size ≤ gb106)); have n5_ := Aside0.mk ((by rw [hg]; exact Nat.ne_of_lt (blk_lt (g := gb105) (o := .cells #[.string a0_0, .int .i64 a0_1, .string a0_2, .int .i64 a0_3, .bool a0_4, .bool a0_5, .slice A0_6 l0_6.length c0_6] 26 (0, 0)) (by (with_reducible repeat (first | refine blk_drewN ?_ _ | refine blk_drew ?_ | refine blk_alloc ?_ _)); exact BK105.out)) : gb105 ≠ gb106)); have n6_ := Aside0.mk ((by rw [hg]; exact Nat.ne_of_gt (blk_lt (g := gb105) (o := .cells #[.string a0_0, .int .i64 a0_1, .string a0_2, .int .i64 a0_3, .bool a0_4, .bool a0_5, .slice A0_6 l0_6.length c0_6] 26 (0, 0)) (by (with_reducible repeat (first | refine blk_drewN ?_ _ | refine blk_drew ?_ | refine blk_alloc ?_ _)); exact BK105.out)) : gb106 ≠ gb105)); clear BK105; clear HB; have BK105 := n0_; have HB := n1_; have BK106 := n2_; have GW106 := n3_; have GE106 := n4_; have NB105_106 := n5_; have NB106_105 := n6_; clear n0_ n1_ n2_ n3_ n4_ n5_ n6_; clear hb hbox hg; have hnb7 := NB105_106.out; have hnc7 := NB106_105.out; have hcz8_0 : w6.cell? ⟨gb105, 0, none⟩ = some (.string a0_0) := (blk_cell BK105.out 0).trans rfl; have hcz8_1 : w6.cell? ⟨gb105, 1, none⟩ = some (.int .i64 a0_1) := (blk_cell BK105.out 1).trans rfl; have hcz8_2 : w6.cell? ⟨gb105, 2, none⟩ = some (.string a0_2) := (blk_cell BK105.out 2).trans rfl; have hcz8_3 : w6.cell? ⟨gb105, 3, none⟩ = some (.int .i64 a0_3) := (blk_cell BK105.out 3).trans rfl; have hcz8_4 : w6.cell? ⟨gb105, 4, none⟩ = some (.bool a0_4) := (blk_cell BK105.out 4).trans rfl; have hcz8_5 : w6.cell? ⟨gb105, 5, none⟩ = some (.bool a0_5) := (blk_cell BK105.out 5).trans rfl; have hcz8_6 : w6.cell? ⟨gb105, 6, none⟩ = some (.slice A0_6 l0_6.length c0_6) := (blk_cell BK105.out 6).trans rfl; have hfz8_0 := blk_frozen BK105.out 0; have hfz8_1 := blk_frozen BK105.out 1; have hfz8_2 := blk_frozen BK105.out 2; have hfz8_3 := blk_frozen BK105.out 3; have hfz8_4 := blk_frozen BK105.out 4; have hfz8_5 := blk_frozen BK105.out 5; have hfz8_6 := blk_frozen BK105.out 6) | ((with_reducible refine gate_callee (f := 58) rfl ?_); refine goesL_ (some 6) rfl rfl Tryd.func58 (by kernel_rfl) rfl #[.agg #[.string a0_0, .int .i64 a0_1, .string a0_2, .int .i64 a0_3, .bool a0_4, .bool a0_5, .slice A0_6 l0_6.length c0_6]] rfl (by (try simp only [List.map_toArray, List.map_cons, List.map_nil]); first | done | rfl | (simp only [List.length_drop, List.length_take]; rfl)) ?_; (with_reducible refine (path_next.calls a0_0 a0_1 a0_2 a0_3 a0_4 a0_5 _ _ l0_6 t107 _ ?side1 ?side2 A2.out).mono ?_); (case side1 => repeat (first | exact (Kd.C_below HR0_6.out HB.out) | (with_reducible refine Kd.C_alloc ?_ _) | (with_reducible refine Kd.C_drewN ?_ _) | (with_reducible refine Kd.C_drew ?_))); (case side2 => exact HC0_6.out); rintro e w9 ⟨rfl, hb⟩; refine ⟨_, rfl, ?_⟩; have n0_ := Aside0.mk (blk_below (g := gb105) (o := .cells #[.string a0_0, .int .i64 a0_1, .string a0_2, .int .i64 a0_3, .bool a0_4, .bool a0_5, .slice A0_6 l0_6.length c0_6] 26 (0, 0)) (by (with_reducible repeat (first | refine blk_drewN ?_ _ | refine blk_drew ?_ | refine blk_alloc ?_ _)); exact BK105.out) hb); have n1_ := Aside0.mk (blk_below (g := gb106) (o := .cells #[.string (⟨#[]⟩ : ByteArray), .int .i64 0, .string (⟨#[]⟩ : ByteArray), .int .i64 0, .bool false, .bool false, .slice none 0 0] 26 (0, 0)) (by (with_reducible repeat (first | refine blk_drewN ?_ _ | refine blk_drew ?_ | refine blk_alloc ?_ _)); exact BK106.out) hb); have n2_ := Aside0.mk (below_step (by repeat (first | (with_reducible first | exact HB.out | apply below_alloc | apply pw_below_drewN | apply below_drew1 | refine below_set ?_ GE105.out | refine below_set ?_ GE106.out) | exact HB.out)) hb); clear BK105; clear BK106; clear HB; have BK105 := n0_; have BK106 := n1_; have HB := n2_; clear n0_ n1_ n2_; (try clear hb); (try clear hb2); (try clear hk); (try clear hi); have hcz10_0 : w9.cell? ⟨gb105, 0, none⟩ = some (.string a0_0) := (blk_cell BK105.out 0).trans rfl; have hcz10_1 : w9.cell? ⟨gb105, 1, none⟩ = some (.int .i64 a0_1) := (blk_cell BK105.out 1).trans rfl; have hcz10_2 : w9.cell? ⟨gb105, 2, none⟩ = some (.string a0_2) := (blk_cell BK105.out 2).trans rfl; have hcz10_3 : w9.cell? ⟨gb105, 3, none⟩ = some (.int .i64 a0_3) := (blk_cell BK105.out 3).trans rfl; have hcz10_4 : w9.cell? ⟨gb105, 4, none⟩ = some (.bool a0_4) := (blk_cell BK105.out 4).trans rfl; have hcz10_5 : w9.cell? ⟨gb105, 5, none⟩ = some (.bool a0_5) := (blk_cell BK105.out 5).trans rfl; have hcz10_6 : w9.cell? ⟨gb105, 6, none⟩ = some (.slice A0_6 l0_6.length c0_6) := (blk_cell BK105.out 6).trans rfl; have hfz10_0 := blk_frozen BK105.out 0; have hfz10_1 := blk_frozen BK105.out 1; have hfz10_2 := blk_frozen BK105.out 2; have hfz10_3 := blk_frozen BK105.out 3; have hfz10_4 := blk_frozen BK105.out 4; have hfz10_5 := blk_frozen BK105.out 5; have hfz10_6 := blk_frozen BK105.out 6) | ((with_reducible refine gate_callee (f := 59) rfl ?_); refine goesL_ (some 9) rfl rfl Tryd.func59 (by kernel_rfl) rfl #[.slice A0_6 l0_6.length c0_6] rfl (by (try simp only [List.map_toArray, List.map_cons, List.map_nil]); first | done | rfl | (simp only [List.length_drop, List.length_take]; rfl)) ?_; (with_reducible refine (path_Digi_59.calls _ _ l0_6 t108 _ ?side1 ?side2 A3.out).mono ?_); (case side1 => repeat (first | exact (Kd.C_below HR0_6.out HB.out) | (with_reducible refine Kd.C_alloc ?_ _) | (with_reducible refine Kd.C_drewN ?_ _) | (with_reducible refine Kd.C_drew ?_))); (case side2 => exact HC0_6.out); rintro e w11 ⟨v109, rfl, ho0, hb⟩; refine ⟨_, rfl, ?_⟩; have n0_ := Aside0.mk (Kd.R_lower ho0 (below_size (by repeat (first | (with_reducible first | exact HB.out | apply below_alloc | apply pw_below_drewN | apply below_drew1 | refine below_set ?_ GE105.out | refine below_set ?_ GE106.out) | exact HB.out)))); have n1_ := Aside0.mk (blk_below (g := gb105) (o := .cells #[.string a0_0, .int .i64 a0_1, .string a0_2, .int .i64 a0_3, .bool a0_4, .bool a0_5, .slice A0_6 l0_6.length c0_6] 26 (0, 0)) (by (with_reducible repeat (first | refine blk_drewN ?_ _ | refine blk_drew ?_ | refine blk_alloc ?_ _)); exact BK105.out) hb); have n2_ := Aside0.mk (blk_below (g := gb106) (o := .cells #[.string (⟨#[]⟩ : ByteArray), .int .i64 0, .string (⟨#[]⟩ : ByteArray), .int .i64 0, .bool false, .bool false, .slice none 0 0] 26 (0, 0)) (by (with_reducible repeat (first | refine blk_drewN ?_ _ | refine blk_drew ?_ | refine blk_alloc ?_ _)); exact BK106.out) hb); have n3_ := Aside0.mk (below_step (by repeat (first | (with_reducible first | exact HB.out | apply below_alloc | apply pw_below_drewN | apply below_drew1 | refine below_set ?_ GE105.out | refine below_set ?_ GE106.out) | exact HB.out)) hb); clear BK105; clear BK106; clear HB; have HO110 := n0_; have BK105 := n1_; have BK106 := n2_; have HB := n3_; clear n0_ n1_ n2_ n3_; (try clear hb); (try clear hb2); (try clear hk); (try clear hi); (try clear ho0); obtain ⟨Ao12, co12, eo12⟩ := Kd.R_slice HO110.out; subst eo12; have hcz13_0 : w11.cell? ⟨gb105, 0, none⟩ = some (.string a0_0) := (blk_cell BK105.out 0).trans rfl; have hcz13_1 : w11.cell? ⟨gb105, 1, none⟩ = some (.int .i64 a0_1) := (blk_cell BK105.out 1).trans rfl; have hcz13_2 : w11.cell? ⟨gb105, 2, none⟩ = some (.string a0_2) := (blk_cell BK105.out 2).trans rfl; have hcz13_3 : w11.cell? ⟨gb105, 3, none⟩ = some (.int .i64 a0_3) := (blk_cell BK105.out 3).trans rfl; have hcz13_4 : w11.cell? ⟨gb105, 4, none⟩ = some (.bool a0_4) := (blk_cell BK105.out 4).trans rfl; have hcz13_5 : w11.cell? ⟨gb105, 5, none⟩ = some (.bool a0_5) := (blk_cell BK105.out 5).trans rfl; have hcz13_6 : w11.cell? ⟨gb105, 6, none⟩ = some (.slice A0_6 l0_6.length c0_6) := (blk_cell BK105.out 6).trans rfl; have hfz13_0 := blk_frozen BK105.out 0; have hfz13_1 := blk_frozen BK105.out 1; have hfz13_2 := blk_frozen BK105.out 2; have hfz13_3 := blk_frozen BK105.out 3; have hfz13_4 := blk_frozen BK105.out 4; have hfz13_5 := blk_frozen BK105.out 5; have hfz13_6 := blk_frozen BK105.out 6; have hcz14_0 : w11.cell? ⟨gb106, 0, none⟩ = some (.string (⟨#[]⟩ : ByteArray)) := (blk_cell BK106.out 0).trans rfl; have hcz14_1 : w11.cell? ⟨gb106, 1, none⟩ = some (.int .i64 0) := (blk_cell BK106.out 1).trans rfl; have hcz14_2 : w11.cell? ⟨gb106, 2, none⟩ = some (.string (⟨#[]⟩ : ByteArray)) := (blk_cell BK106.out 2).trans rfl; have hcz14_3 : w11.cell? ⟨gb106, 3, none⟩ = some (.int .i64 0) := (blk_cell BK106.out 3).trans rfl; have hcz14_4 : w11.cell? ⟨gb106, 4, none⟩ = some (.bool false) := (blk_cell BK106.out 4).trans rfl; have hcz14_5 : w11.cell? ⟨gb106, 5, none⟩ = some (.bool false) := (blk_cell BK106.out 5).trans rfl; have hcz14_6 : w11.cell? ⟨gb106, 6, none⟩ = some (.slice none 0 0) := (blk_cell BK106.out 6).trans rfl; have hfz14_0 := blk_frozen BK106.out 0; have hfz14_1 := blk_frozen BK106.out 1; have hfz14_2 := blk_frozen BK106.out 2; have hfz14_3 := blk_frozen BK106.out 3; have hfz14_4 := blk_frozen BK106.out 4; have hfz14_5 := blk_frozen BK106.out 5; have hfz14_6 := blk_frozen BK106.out 6))
  refine bodyPost_ret (results_ct rfl _ _ gb106 26 #[.string a0_0, .int .i64 a0_1, .string a0_2, .int .i64 a0_3, .bool a0_4, .bool a0_5, .slice Ao12 t108.length co12] (0, 0) _ rfl (by (with_reducible repeat (first | refine blk_drewN ?_ _ | refine blk_drew ?_ | refine blk_alloc ?_ _)); refine blk_put (cs := #[.string a0_0, .int .i64 a0_1, .string a0_2, .int .i64 a0_3, .bool a0_4, .bool a0_5, .slice none 0 0]) ?_ 6 _ rfl; (with_reducible repeat (first | refine blk_drewN ?_ _ | refine blk_drew ?_ | refine blk_alloc ?_ _)); refine blk_put (cs := #[.string a0_0, .int .i64 a0_1, .string a0_2, .int .i64 a0_3, .bool a0_4, .bool false, .slice none 0 0]) ?_ 5 _ rfl; (with_reducible repeat (first | refine blk_drewN ?_ _ | refine blk_drew ?_ | refine blk_alloc ?_ _)); refine blk_put (cs := #[.string a0_0, .int .i64 a0_1, .string a0_2, .int .i64 a0_3, .bool false, .bool false, .slice none 0 0]) ?_ 4 _ rfl; (with_reducible repeat (first | refine blk_drewN ?_ _ | refine blk_drew ?_ | refine blk_alloc ?_ _)); refine blk_put (cs := #[.string a0_0, .int .i64 a0_1, .string a0_2, .int .i64 0, .bool false, .bool false, .slice none 0 0]) ?_ 3 _ rfl; (with_reducible repeat (first | refine blk_drewN ?_ _ | refine blk_drew ?_ | refine blk_alloc ?_ _)); refine blk_put (cs := #[.string a0_0, .int .i64 a0_1, .string (⟨#[]⟩ : ByteArray), .int .i64 0, .bool false, .bool false, .slice none 0 0]) ?_ 2 _ rfl; (with_reducible repeat (first | refine blk_drewN ?_ _ | refine blk_drew ?_ | refine blk_alloc ?_ _)); refine blk_put (cs := #[.string a0_0, .int .i64 0, .string (⟨#[]⟩ : ByteArray), .int .i64 0, .bool false, .bool false, .slice none 0 0]) ?_ 1 _ rfl; (with_reducible repeat (first | refine blk_drewN ?_ _ | refine blk_drew ?_ | refine blk_alloc ?_ _)); refine blk_put (cs := #[.string (⟨#[]⟩ : ByteArray), .int .i64 0, .string (⟨#[]⟩ : ByteArray), .int .i64 0, .bool false, .bool false, .slice none 0 0]) ?_ 0 _ rfl; (with_reducible repeat (first | refine blk_drewN ?_ _ | refine blk_drew ?_ | refine blk_alloc ?_ _)); refine blk_far ?_ NB106_105.out _; (with_reducible repeat (first | refine blk_drewN ?_ _ | refine blk_drew ?_ | refine blk_alloc ?_ _)); exact BK106.out) Tryd.underlying26 rfl (by kernel_rfl)) rfl ?_
  exact ⟨_, by first | rfl | (simp [errW_none, errW_some] <;> rfl) | (simp [*, errW_none, errW_some] <;> rfl), by (with_reducible repeat (first | apply Kd.R_alloc | apply Kd.R_drewN | apply Kd.R_drew)); exact Kd.R_mono (Kd.R_far (p := ⟨gb106, 6, none⟩) (Kd.R_far (p := ⟨gb106, 5, none⟩) (Kd.R_far (p := ⟨gb106, 4, none⟩) (Kd.R_far (p := ⟨gb106, 3, none⟩) (Kd.R_far (p := ⟨gb106, 2, none⟩) (Kd.R_far (p := ⟨gb106, 1, none⟩) (Kd.R_far (p := ⟨gb106, 0, none⟩) (Kd.R_far (p := ⟨gb105, 6, none⟩) (Kd.R_types (Kd.R_types HO110.out BK105.out (by decide)) BK106.out (by decide)) (fun _ hk => hk.1.2) (.slice Ao12 t108.length co12)) (fun _ hk => hk.2) (.string a0_0)) (fun _ hk => hk.2) (.int .i64 a0_1)) (fun _ hk => hk.2) (.string a0_2)) (fun _ hk => hk.2) (.int .i64 a0_3)) (fun _ hk => hk.2) (.bool a0_4)) (fun _ hk => hk.2) (.bool a0_5)) (fun _ hk => hk.2) (.slice Ao12 t108.length co12)) (fun _ hk => trivial), by repeat (first | (with_reducible first | exact HB.out | apply below_alloc | apply pw_below_drewN | apply below_drew1 | refine below_set ?_ GE105.out | refine below_set ?_ GE106.out) | exact HB.out)⟩
 ·rw [if_neg c4] at H
  have c4b0 : decide (t107 < 0) = false := decide_eq_false c4
  clear c4
  by_cases c15 : 0 ≤ t107
  ·rw [if_pos c15] at H
   have c15b0 : decide (0 ≤ t107) = true := decide_eq_true c15
   clear c15
   by_cases c16 : t107 < (t108.length : Int)
   ·rw [if_pos c16] at H
    have c16b0 : decide (t107 < (t108.length : Int)) = true := decide_eq_true c16
    clear c16
    obtain ⟨y111, hy111⟩ : ∃ y_ : List (S93), y_ = (t108.set (t107 : Int).toNat (⟨(⟨(rd_T93 t108 t107).f0.f0, (rd_T93 t108 t107).f0.f1⟩ : S23), true⟩ : S93)) := ⟨_, rfl⟩
    replace H : (some (a0_0, a0_1, a0_2, a0_3, a0_4, a0_5, y111, true)) = some (r1, r2, r3, r4, r5, r6, r7, r8) := by first | (rw [hy111]; with_reducible exact H) | (have H2_ := (Option.bind_some _ _).symm.trans H; rw [hy111]; with_reducible exact H2_) | (have H2_ := (Option.bind_some _ _).symm.trans H; with_reducible exact H2_) | with_reducible exact H | (rw [hy111]; exact H) | exact H
    have Ny111 := Aside0.mk hy111
    clear hy111
    simp only [Option.some.injEq, Prod.mk.injEq] at H
    obtain ⟨rfl, rfl, rfl, rfl, rfl, rfl, rfl, rfl⟩ := H
    go_enter Tryd.func20, Tryd.ntmps20
    go_wp2_with (first | ((with_reducible refine gate_dst (N := 1) rfl ?_); refine box_event ?hg (N := 1) ?hd (cs := #[.string a0_0, .int .i64 a0_1, .string a0_2, .int .i64 a0_3, .bool a0_4, .bool a0_5, .slice A0_6 l0_6.length c0_6]) (t := 26) ?hr ?_; (case hd => rfl); (case hg => rfl); (case hr => first | (go_simp; done) | (go_simp; rfl)); intro gb105 hg w18 hbox hb; have n0_ := Aside0.mk (below_step (by repeat (first | (with_reducible first | exact HB.out | apply below_alloc | apply pw_below_drewN | apply below_drew1) | exact HB.out)) hb); have n1_ := Aside0.mk (hbox); have n2_ := Aside0.mk ((by rw [hg]; exact (below_size (by repeat (first | (with_reducible first | exact HB.out | apply below_alloc | apply pw_below_drewN | apply below_drew1) | exact HB.out))) : w.heap.size ≤ gb105)); have n3_ := Aside0.mk ((by rw [hg]; exact (below_size (by repeat (first | (with_reducible first | exact HB.out | apply below_alloc | apply pw_below_drewN | apply below_drew1) | exact HB.out))) : w.heap.size ≤ gb105)); clear HB; have HB := n0_; have BK105 := n1_; have GW105 := n2_; have GE105 := n3_; clear n0_ n1_ n2_ n3_; clear hb hbox hg) | ((with_reducible refine gate_dst (N := 2) rfl ?_); refine box_event ?hg (N := 2) ?hd (cs := #[.string (⟨#[]⟩ : ByteArray), .int .i64 0, .string (⟨#[]⟩ : ByteArray), .int .i64 0, .bool false, .bool false, .slice none 0 0]) (t := 26) ?hr ?_; (case hd => rfl); (case hg => rfl); (case hr => first | (go_simp; done) | (go_simp; rfl)); intro gb106 hg w19 hbox hb; have n0_ := Aside0.mk (blk_below (g := gb105) (o := .cells #[.string a0_0, .int .i64 a0_1, .string a0_2, .int .i64 a0_3, .bool a0_4, .bool a0_5, .slice A0_6 l0_6.length c0_6] 26 (0, 0)) (by (with_reducible repeat (first | refine blk_drewN ?_ _ | refine blk_drew ?_ | refine blk_alloc ?_ _)); exact BK105.out) hb); have n1_ := Aside0.mk (below_step (by repeat (first | (with_reducible first | exact HB.out | apply below_alloc | apply pw_below_drewN | apply below_drew1 | refine below_set ?_ GE105.out) | exact HB.out)) hb); have n2_ := Aside0.mk (hbox); have n3_ := Aside0.mk ((by rw [hg]; exact (below_size (by repeat (first | (with_reducible first | exact HB.out | apply below_alloc | apply pw_below_drewN | apply below_drew1 | refine below_set ?_ GE105.out) | exact HB.out))) : w.heap.size ≤ gb106)); have n4_ := Aside0.mk ((by rw [hg]; exact (below_size (by repeat (first | (with_reducible first | exact HB.out | apply below_alloc | apply pw_below_drewN | apply below_drew1 | refine below_set ?_ GE105.out) | exact HB.out))) : w.heap.size ≤ gb106)); have n5_ := Aside0.mk ((by rw [hg]; exact Nat.ne_of_lt (blk_lt (g := gb105) (o := .cells #[.string a0_0, .int .i64 a0_1, .string a0_2, .int .i64 a0_3, .bool a0_4, .bool a0_5, .slice A0_6 l0_6.length c0_6] 26 (0, 0)) (by (with_reducible repeat (first | refine blk_drewN ?_ _ | refine blk_drew ?_ | refine blk_alloc ?_ _)); exact BK105.out)) : gb105 ≠ gb106)); have n6_ := Aside0.mk ((by rw [hg]; exact Nat.ne_of_gt (blk_lt (g := gb105) (o := .cells #[.string a0_0, .int .i64 a0_1, .string a0_2, .int .i64 a0_3, .bool a0_4, .bool a0_5, .slice A0_6 l0_6.length c0_6] 26 (0, 0)) (by (with_reducible repeat (first | refine blk_drewN ?_ _ | refine blk_drew ?_ | refine blk_alloc ?_ _)); exact BK105.out)) : gb106 ≠ gb105)); clear BK105; clear HB; have BK105 := n0_; have HB := n1_; have BK106 := n2_; have GW106 := n3_; have GE106 := n4_; have NB105_106 := n5_; have NB106_105 := n6_; clear n0_ n1_ n2_ n3_ n4_ n5_ n6_; clear hb hbox hg; have hnb20 := NB105_106.out; have hnc20 := NB106_105.out; have hcz21_0 : w19.cell? ⟨gb105, 0, none⟩ = some (.string a0_0) := (blk_cell BK105.out 0).trans rfl; have hcz21_1 : w19.cell? ⟨gb105, 1, none⟩ = some (.int .i64 a0_1) := (blk_cell BK105.out 1).trans rfl; have hcz21_2 : w19.cell? ⟨gb105, 2, none⟩ = some (.string a0_2) := (blk_cell BK105.out 2).trans rfl; have hcz21_3 : w19.cell? ⟨gb105, 3, none⟩ = some (.int .i64 a0_3) := (blk_cell BK105.out 3).trans rfl; have hcz21_4 : w19.cell? ⟨gb105, 4, none⟩ = some (.bool a0_4) := (blk_cell BK105.out 4).trans rfl; have hcz21_5 : w19.cell? ⟨gb105, 5, none⟩ = some (.bool a0_5) := (blk_cell BK105.out 5).trans rfl; have hcz21_6 : w19.cell? ⟨gb105, 6, none⟩ = some (.slice A0_6 l0_6.length c0_6) := (blk_cell BK105.out 6).trans rfl; have hfz21_0 := blk_frozen BK105.out 0; have hfz21_1 := blk_frozen BK105.out 1; have hfz21_2 := blk_frozen BK105.out 2; have hfz21_3 := blk_frozen BK105.out 3; have hfz21_4 := blk_frozen BK105.out 4; have hfz21_5 := blk_frozen BK105.out 5; have hfz21_6 := blk_frozen BK105.out 6) | ((with_reducible refine gate_callee (f := 58) rfl ?_); refine goesL_ (some 6) rfl rfl Tryd.func58 (by kernel_rfl) rfl #[.agg #[.string a0_0, .int .i64 a0_1, .string a0_2, .int .i64 a0_3, .bool a0_4, .bool a0_5, .slice A0_6 l0_6.length c0_6]] rfl (by (try simp only [List.map_toArray, List.map_cons, List.map_nil]); first | done | rfl | (simp only [List.length_drop, List.length_take]; rfl)) ?_; (with_reducible refine (path_next.calls a0_0 a0_1 a0_2 a0_3 a0_4 a0_5 _ _ l0_6 t107 _ ?side1 ?side2 A2.out).mono ?_); (case side1 => repeat (first | exact (Kd.C_below HR0_6.out HB.out) | (with_reducible refine Kd.C_alloc ?_ _) | (with_reducible refine Kd.C_drewN ?_ _) | (with_reducible refine Kd.C_drew ?_))); (case side2 => exact HC0_6.out); rintro e w22 ⟨rfl, hb⟩; refine ⟨_, rfl, ?_⟩; have n0_ := Aside0.mk (blk_below (g := gb105) (o := .cells #[.string a0_0, .int .i64 a0_1, .string a0_2, .int .i64 a0_3, .bool a0_4, .bool a0_5, .slice A0_6 l0_6.length c0_6] 26 (0, 0)) (by (with_reducible repeat (first | refine blk_drewN ?_ _ | refine blk_drew ?_ | refine blk_alloc ?_ _)); exact BK105.out) hb); have n1_ := Aside0.mk (blk_below (g := gb106) (o := .cells #[.string (⟨#[]⟩ : ByteArray), .int .i64 0, .string (⟨#[]⟩ : ByteArray), .int .i64 0, .bool false, .bool false, .slice none 0 0] 26 (0, 0)) (by (with_reducible repeat (first | refine blk_drewN ?_ _ | refine blk_drew ?_ | refine blk_alloc ?_ _)); exact BK106.out) hb); have n2_ := Aside0.mk (below_step (by repeat (first | (with_reducible first | exact HB.out | apply below_alloc | apply pw_below_drewN | apply below_drew1 | refine below_set ?_ GE105.out | refine below_set ?_ GE106.out) | exact HB.out)) hb); clear BK105; clear BK106; clear HB; have BK105 := n0_; have BK106 := n1_; have HB := n2_; clear n0_ n1_ n2_; (try clear hb); (try clear hb2); (try clear hk); (try clear hi); have hcz23_0 : w22.cell? ⟨gb105, 0, none⟩ = some (.string a0_0) := (blk_cell BK105.out 0).trans rfl; have hcz23_1 : w22.cell? ⟨gb105, 1, none⟩ = some (.int .i64 a0_1) := (blk_cell BK105.out 1).trans rfl; have hcz23_2 : w22.cell? ⟨gb105, 2, none⟩ = some (.string a0_2) := (blk_cell BK105.out 2).trans rfl; have hcz23_3 : w22.cell? ⟨gb105, 3, none⟩ = some (.int .i64 a0_3) := (blk_cell BK105.out 3).trans rfl; have hcz23_4 : w22.cell? ⟨gb105, 4, none⟩ = some (.bool a0_4) := (blk_cell BK105.out 4).trans rfl; have hcz23_5 : w22.cell? ⟨gb105, 5, none⟩ = some (.bool a0_5) := (blk_cell BK105.out 5).trans rfl; have hcz23_6 : w22.cell? ⟨gb105, 6, none⟩ = some (.slice A0_6 l0_6.length c0_6) := (blk_cell BK105.out 6).trans rfl; have hfz23_0 := blk_frozen BK105.out 0; have hfz23_1 := blk_frozen BK105.out 1; have hfz23_2 := blk_frozen BK105.out 2; have hfz23_3 := blk_frozen BK105.out 3; have hfz23_4 := blk_frozen BK105.out 4; have hfz23_5 := blk_frozen BK105.out 5; have hfz23_6 := blk_frozen BK105.out 6) | ((with_reducible refine gate_callee (f := 59) rfl ?_); refine goesL_ (some 9) rfl rfl Tryd.func59 (by kernel_rfl) rfl #[.slice A0_6 l0_6.length c0_6] rfl (by (try simp only [List.map_toArray, List.map_cons, List.map_nil]); first | done | rfl | (simp only [List.length_drop, List.length_take]; rfl)) ?_; (with_reducible refine (path_Digi_59.calls _ _ l0_6 t108 _ ?side1 ?side2 A3.out).mono ?_); (case side1 => repeat (first | exact (Kd.C_below HR0_6.out HB.out) | (with_reducible refine Kd.C_alloc ?_ _) | (with_reducible refine Kd.C_drewN ?_ _) | (with_reducible refine Kd.C_drew ?_))); (case side2 => exact HC0_6.out); rintro e w24 ⟨v109, rfl, ho0, hb⟩; refine ⟨_, rfl, ?_⟩; have n0_ := Aside0.mk (Kd.R_lower ho0 (below_size (by repeat (first | (with_reducible first | exact HB.out | apply below_alloc | apply pw_below_drewN | apply below_drew1 | refine below_set ?_ GE105.out | refine below_set ?_ GE106.out) | exact HB.out)))); have n1_ := Aside0.mk (blk_below (g := gb105) (o := .cells #[.string a0_0, .int .i64 a0_1, .string a0_2, .int .i64 a0_3, .bool a0_4, .bool a0_5, .slice A0_6 l0_6.length c0_6] 26 (0, 0)) (by (with_reducible repeat (first | refine blk_drewN ?_ _ | refine blk_drew ?_ | refine blk_alloc ?_ _)); exact BK105.out) hb); have n2_ := Aside0.mk (blk_below (g := gb106) (o := .cells #[.string (⟨#[]⟩ : ByteArray), .int .i64 0, .string (⟨#[]⟩ : ByteArray), .int .i64 0, .bool false, .bool false, .slice none 0 0] 26 (0, 0)) (by (with_reducible repeat (first | refine blk_drewN ?_ _ | refine blk_drew ?_ | refine blk_alloc ?_ _)); exact BK106.out) hb); have n3_ := Aside0.mk (below_step (by repeat (first | (with_reducible first | exact HB.out | apply below_alloc | apply pw_below_drewN | apply below_drew1 | refine below_set ?_ GE105.out | refine below_set ?_ GE106.out) | exact HB.out)) hb); clear BK105; clear BK106; clear HB; have HO110 := n0_; have BK105 := n1_; have BK106 := n2_; have HB := n3_; clear n0_ n1_ n2_ n3_; (try clear hb); (try clear hb2); (try clear hk); (try clear hi); (try clear ho0); obtain ⟨Ao25, co25, eo25⟩ := Kd.R_slice HO110.out; subst eo25; have hcz26_0 : w24.cell? ⟨gb105, 0, none⟩ = some (.string a0_0) := (blk_cell BK105.out 0).trans rfl; have hcz26_1 : w24.cell? ⟨gb105, 1, none⟩ = some (.int .i64 a0_1) := (blk_cell BK105.out 1).trans rfl; have hcz26_2 : w24.cell? ⟨gb105, 2, none⟩ = some (.string a0_2) := (blk_cell BK105.out 2).trans rfl; have hcz26_3 : w24.cell? ⟨gb105, 3, none⟩ = some (.int .i64 a0_3) := (blk_cell BK105.out 3).trans rfl; have hcz26_4 : w24.cell? ⟨gb105, 4, none⟩ = some (.bool a0_4) := (blk_cell BK105.out 4).trans rfl; have hcz26_5 : w24.cell? ⟨gb105, 5, none⟩ = some (.bool a0_5) := (blk_cell BK105.out 5).trans rfl; have hcz26_6 : w24.cell? ⟨gb105, 6, none⟩ = some (.slice A0_6 l0_6.length c0_6) := (blk_cell BK105.out 6).trans rfl; have hfz26_0 := blk_frozen BK105.out 0; have hfz26_1 := blk_frozen BK105.out 1; have hfz26_2 := blk_frozen BK105.out 2; have hfz26_3 := blk_frozen BK105.out 3; have hfz26_4 := blk_frozen BK105.out 4; have hfz26_5 := blk_frozen BK105.out 5; have hfz26_6 := blk_frozen BK105.out 6) | ((with_reducible refine gate_store (t := 24) (p := 10) rfl ?_); refine store_event (t := 24) (p := 10) (v := ?vo_w27) (w1 := (w24.setCell ⟨gb105, 6, none⟩ (.slice Ao25 t108.length co25))) ?hg ?ho ?hn ?hr ?_; (case ho => rfl); (case hg => rfl); (case hn => rfl); (case hr => first | (go_simp; done) | (go_simp; rfl)); intro w27 hw; have n0_ : Aside0 (Kd.R k93 93 w27 w.heap.size (fun _ => True) (.slice Ao25 t108.length co25) t108) := ⟨(by rw [hw]; exact (by (with_reducible repeat (first | apply Kd.R_alloc | apply Kd.R_drewN | apply Kd.R_drew)); exact Kd.R_mono (Kd.R_far (p := ⟨gb105, 6, none⟩) (Kd.R_types HO110.out BK105.out (by decide)) (fun _ hk => hk.2) (.slice Ao25 t108.length co25)) (fun _ hk => trivial)))⟩; have n1_ : Aside0 (w27.heap[gb105]? = some (.cells #[.string a0_0, .int .i64 a0_1, .string a0_2, .int .i64 a0_3, .bool a0_4, .bool a0_5, .slice Ao25 t108.length co25] 26 (0, 0))) := ⟨(by rw [hw]; exact (by (with_reducible repeat (first | refine blk_drewN ?_ _ | refine blk_drew ?_ | refine blk_alloc ?_ _)); refine blk_put (cs := #[.string a0_0, .int .i64 a0_1, .string a0_2, .int .i64 a0_3, .bool a0_4, .bool a0_5, .slice A0_6 l0_6.length c0_6]) ?_ 6 _ rfl; (with_reducible repeat (first | refine blk_drewN ?_ _ | refine blk_drew ?_ | refine blk_alloc ?_ _)); exact BK105.out))⟩; have n2_ : Aside0 (w27.heap[gb106]? = some (.cells #[.string (⟨#[]⟩ : ByteArray), .int .i64 0, .string (⟨#[]⟩ : ByteArray), .int .i64 0, .bool false, .bool false, .slice none 0 0] 26 (0, 0))) := ⟨(by rw [hw]; exact (by (with_reducible repeat (first | refine blk_drewN ?_ _ | refine blk_drew ?_ | refine blk_alloc ?_ _)); refine blk_far ?_ NB106_105.out _; (with_reducible repeat (first | refine blk_drewN ?_ _ | refine blk_drew ?_ | refine blk_alloc ?_ _)); exact BK106.out))⟩; have n3_ : Aside0 (Below w.heap.size w w27) := ⟨(by rw [hw]; exact (by repeat (first | (with_reducible first | exact HB.out | apply below_alloc | apply pw_below_drewN | apply below_drew1 | refine below_set ?_ GE105.out | refine below_set ?_ GE106.out) | exact HB.out)))⟩; clear hw; clear HO110; clear BK105; clear BK106; clear HB; have HO110 := n0_; have BK105 := n1_; have BK106 := n2_; have HB := n3_; clear n0_ n1_ n2_ n3_; have hcz28_0 : w27.cell? ⟨gb105, 0, none⟩ = some (.string a0_0) := (blk_cell BK105.out 0).trans rfl; have hcz28_1 : w27.cell? ⟨gb105, 1, none⟩ = some (.int .i64 a0_1) := (blk_cell BK105.out 1).trans rfl; have hcz28_2 : w27.cell? ⟨gb105, 2, none⟩ = some (.string a0_2) := (blk_cell BK105.out 2).trans rfl; have hcz28_3 : w27.cell? ⟨gb105, 3, none⟩ = some (.int .i64 a0_3) := (blk_cell BK105.out 3).trans rfl; have hcz28_4 : w27.cell? ⟨gb105, 4, none⟩ = some (.bool a0_4) := (blk_cell BK105.out 4).trans rfl; have hcz28_5 : w27.cell? ⟨gb105, 5, none⟩ = some (.bool a0_5) := (blk_cell BK105.out 5).trans rfl; have hcz28_6 : w27.cell? ⟨gb105, 6, none⟩ = some (.slice Ao25 t108.length co25) := (blk_cell BK105.out 6).trans rfl; have hfz28_0 := blk_frozen BK105.out 0; have hfz28_1 := blk_frozen BK105.out 1; have hfz28_2 := blk_frozen BK105.out 2; have hfz28_3 := blk_frozen BK105.out 3; have hfz28_4 := blk_frozen BK105.out 4; have hfz28_5 := blk_frozen BK105.out 5; have hfz28_6 := blk_frozen BK105.out 6; have p17 : 0 ≤ (t107 : Int) := of_decide_eq_true (by first | (with_reducible assumption) | assumption); have q17 : (t107 : Int) < ((t108.length : Int) : Int) := of_decide_eq_true (by first | (with_reducible assumption) | assumption); obtain ⟨go17, co17, eo17, gb17, gl17, cl17, HG17⟩ := Kd.R_form HO110.out (by omega); (first | cases eo17 | (injection eo17 with ea_ en_ ec_; (first | subst ea_ | (injection ea_ with ea_; subst ea_)); subst ec_; clear en_)); have GB17 := Aside0.mk gb17; have GG17 := Aside0.mk HG17; clear gb17 gl17 HG17; obtain ⟨ce17, hcl17, hM17, hcc17, hfr17⟩ := Kd.R_elem HO110.out z93 (t107 : Int) p17 q17; obtain rfl := k93_openM hM17; have hx17_0 : w27.cell? ⟨go17, (t107 : Int).toNat * 3, none⟩ = some (.string ((rd_T93 t108 t107).f0.f0)) := hcc17 0 _ rfl; have hx17_1 : w27.cell? ⟨go17, (t107 : Int).toNat * 3 + 1, none⟩ = some (.int .i64 ((rd_T93 t108 t107).f0.f1)) := hcc17 1 _ rfl; have hx17_2 : w27.cell? ⟨go17, (t107 : Int).toNat * 3 + 2, none⟩ = some (.bool ((rd_T93 t108 t107).f1)) := hcc17 2 _ rfl; have hf17_0 : w27.frozen? ⟨go17, (t107 : Int).toNat * 3, none⟩ = false := hfr17 0; have hf17_1 : w27.frozen? ⟨go17, (t107 : Int).toNat * 3 + 1, none⟩ = false := hfr17 1; have hf17_2 : w27.frozen? ⟨go17, (t107 : Int).toNat * 3 + 2, none⟩ = false := hfr17 2; clear hcl17 hcc17 hfr17 hM17; replace p17 := eq_true p17; replace q17 := eq_true q17; have HX29 := Aside0.mk (show Kd.R k93 93 w27 w.heap.size (fun _ => True) (.slice (some ⟨go17, 0, none⟩) t108.length co25) t108 from (by (with_reducible repeat (first | apply Kd.R_alloc | apply Kd.R_drewN | apply Kd.R_drew)); exact HO110.out)); obtain ⟨ce29, hcl29, hM29, hcc29, hfr29⟩ := Kd.R_elem HX29.out z93 (t107 : Int) (of_decide_eq_true (by first | (with_reducible assumption) | assumption)) (by have h_ : (t107 : Int) < ((t108.length : Int) : Int) := of_decide_eq_true (by first | (with_reducible assumption) | assumption); first | exact h_ | (have e_ := (Kd.R_reads' HO110.out).1; omega) | simpa using h_); obtain rfl := k93_openM hM29; have HP29 := Kd.R_seg HX29.out (t107 : Int) (of_decide_eq_true (by first | (with_reducible assumption) | assumption)) (by have h_ : (t107 : Int) < ((t108.length : Int) : Int) := of_decide_eq_true (by first | (with_reducible assumption) | assumption); first | exact h_ | (have e_ := (Kd.R_reads' HO110.out).1; omega) | simpa using h_) (seg := [.bool true]) (j := 2) hcl29 hcc29 (show 3 ≤ 3 from by decide) (x' := (⟨(⟨(rd_T93 t108 t107).f0.f0, (rd_T93 t108 t107).f0.f1⟩ : S23), true⟩ : S93)) (k93_mkM _ _ _ (⟨(⟨(rd_T93 t108 t107).f0.f0, (rd_T93 t108 t107).f0.f1⟩ : S23), true⟩ : S93) ) (fun _ hk => hk); have hx29_2 := hcc29 2 _ rfl; (try simp only [show (k93).sz = 3 from rfl, Nat.mul_one, Nat.add_zero] at hx29_2); have hf29_2 := hfr29 2; (try simp only [show (k93).sz = 3 from rfl, Nat.mul_one, Nat.add_zero] at hf29_2); clear hcl29 hcc29 hfr29 hM29) | ((with_reducible refine gate_store (t := 4) (p := 18) rfl ?_); refine store_event (t := 4) (p := 18) (v := ?vo_w30) (w1 := (w27.setCell ⟨go17, (t107 : Int).toNat * 3 + 2, none⟩ (.bool true))) ?hg ?ho ?hn ?hr ?_; (case ho => rfl); (case hg => rfl); (case hn => rfl); (case hr => first | (go_simp; done) | (go_simp; rfl)); intro w30 hw; have hg : w27.grownBy w30 (some go17) := (by rw [hw]; exact HP29.2); have hp_ : Kd.R k93 93 w30 w.heap.size (fun _ => True) (.slice (some ⟨go17, 0, none⟩) t108.length co25) y111 := (by rw [hw, Ny111.out]; exact HP29.1); clear HP29; have n0_ := Aside0.mk (blk_grown (g := gb105) (o := .cells #[.string a0_0, .int .i64 a0_1, .string a0_2, .int .i64 a0_3, .bool a0_4, .bool a0_5, .slice (some ⟨go17, 0, none⟩) t108.length co25] 26 (0, 0)) (by (with_reducible repeat (first | refine blk_drewN ?_ _ | refine blk_drew ?_ | refine blk_alloc ?_ _)); exact BK105.out) hg (Kd.R_ne HO110.out BK105.out (by decide))); have n1_ := Aside0.mk (blk_grown (g := gb106) (o := .cells #[.string (⟨#[]⟩ : ByteArray), .int .i64 0, .string (⟨#[]⟩ : ByteArray), .int .i64 0, .bool false, .bool false, .slice none 0 0] 26 (0, 0)) (by (with_reducible repeat (first | refine blk_drewN ?_ _ | refine blk_drew ?_ | refine blk_alloc ?_ _)); exact BK106.out) hg (Kd.R_ne HO110.out BK106.out (by decide))); have n2_ := Aside0.mk (hp_); have n3_ := Aside0.mk ((by rw [hw]; exact below_set (HB.out) GB17.out : Below w.heap.size w w30)); clear BK105; clear BK106; clear HO110; clear HB; have BK105 := n0_; have BK106 := n1_; have HO110 := n2_; have HB := n3_; clear n0_ n1_ n2_ n3_; clear hg hw hp_; have hcz31_0 : w30.cell? ⟨gb105, 0, none⟩ = some (.string a0_0) := (blk_cell BK105.out 0).trans rfl; have hcz31_1 : w30.cell? ⟨gb105, 1, none⟩ = some (.int .i64 a0_1) := (blk_cell BK105.out 1).trans rfl; have hcz31_2 : w30.cell? ⟨gb105, 2, none⟩ = some (.string a0_2) := (blk_cell BK105.out 2).trans rfl; have hcz31_3 : w30.cell? ⟨gb105, 3, none⟩ = some (.int .i64 a0_3) := (blk_cell BK105.out 3).trans rfl; have hcz31_4 : w30.cell? ⟨gb105, 4, none⟩ = some (.bool a0_4) := (blk_cell BK105.out 4).trans rfl; have hcz31_5 : w30.cell? ⟨gb105, 5, none⟩ = some (.bool a0_5) := (blk_cell BK105.out 5).trans rfl; have hcz31_6 : w30.cell? ⟨gb105, 6, none⟩ = some (.slice (some ⟨go17, 0, none⟩) t108.length co25) := (blk_cell BK105.out 6).trans rfl; have hfz31_0 := blk_frozen BK105.out 0; have hfz31_1 := blk_frozen BK105.out 1; have hfz31_2 := blk_frozen BK105.out 2; have hfz31_3 := blk_frozen BK105.out 3; have hfz31_4 := blk_frozen BK105.out 4; have hfz31_5 := blk_frozen BK105.out 5; have hfz31_6 := blk_frozen BK105.out 6; have hcz32_0 : w30.cell? ⟨gb106, 0, none⟩ = some (.string (⟨#[]⟩ : ByteArray)) := (blk_cell BK106.out 0).trans rfl; have hcz32_1 : w30.cell? ⟨gb106, 1, none⟩ = some (.int .i64 0) := (blk_cell BK106.out 1).trans rfl; have hcz32_2 : w30.cell? ⟨gb106, 2, none⟩ = some (.string (⟨#[]⟩ : ByteArray)) := (blk_cell BK106.out 2).trans rfl; have hcz32_3 : w30.cell? ⟨gb106, 3, none⟩ = some (.int .i64 0) := (blk_cell BK106.out 3).trans rfl; have hcz32_4 : w30.cell? ⟨gb106, 4, none⟩ = some (.bool false) := (blk_cell BK106.out 4).trans rfl; have hcz32_5 : w30.cell? ⟨gb106, 5, none⟩ = some (.bool false) := (blk_cell BK106.out 5).trans rfl; have hcz32_6 : w30.cell? ⟨gb106, 6, none⟩ = some (.slice none 0 0) := (blk_cell BK106.out 6).trans rfl; have hfz32_0 := blk_frozen BK106.out 0; have hfz32_1 := blk_frozen BK106.out 1; have hfz32_2 := blk_frozen BK106.out 2; have hfz32_3 := blk_frozen BK106.out 3; have hfz32_4 := blk_frozen BK106.out 4; have hfz32_5 := blk_frozen BK106.out 5; have hfz32_6 := blk_frozen BK106.out 6))
    refine bodyPost_ret (results_ct rfl _ _ gb106 26 #[.string a0_0, .int .i64 a0_1, .string a0_2, .int .i64 a0_3, .bool a0_4, .bool a0_5, .slice (some ⟨go17, 0, none⟩) t108.length co25] (0, 0) _ rfl (by (with_reducible repeat (first | refine blk_drewN ?_ _ | refine blk_drew ?_ | refine blk_alloc ?_ _)); refine blk_put (cs := #[.string a0_0, .int .i64 a0_1, .string a0_2, .int .i64 a0_3, .bool a0_4, .bool a0_5, .slice none 0 0]) ?_ 6 _ rfl; (with_reducible repeat (first | refine blk_drewN ?_ _ | refine blk_drew ?_ | refine blk_alloc ?_ _)); refine blk_put (cs := #[.string a0_0, .int .i64 a0_1, .string a0_2, .int .i64 a0_3, .bool a0_4, .bool false, .slice none 0 0]) ?_ 5 _ rfl; (with_reducible repeat (first | refine blk_drewN ?_ _ | refine blk_drew ?_ | refine blk_alloc ?_ _)); refine blk_put (cs := #[.string a0_0, .int .i64 a0_1, .string a0_2, .int .i64 a0_3, .bool false, .bool false, .slice none 0 0]) ?_ 4 _ rfl; (with_reducible repeat (first | refine blk_drewN ?_ _ | refine blk_drew ?_ | refine blk_alloc ?_ _)); refine blk_put (cs := #[.string a0_0, .int .i64 a0_1, .string a0_2, .int .i64 0, .bool false, .bool false, .slice none 0 0]) ?_ 3 _ rfl; (with_reducible repeat (first | refine blk_drewN ?_ _ | refine blk_drew ?_ | refine blk_alloc ?_ _)); refine blk_put (cs := #[.string a0_0, .int .i64 a0_1, .string (⟨#[]⟩ : ByteArray), .int .i64 0, .bool false, .bool false, .slice none 0 0]) ?_ 2 _ rfl; (with_reducible repeat (first | refine blk_drewN ?_ _ | refine blk_drew ?_ | refine blk_alloc ?_ _)); refine blk_put (cs := #[.string a0_0, .int .i64 0, .string (⟨#[]⟩ : ByteArray), .int .i64 0, .bool false, .bool false, .slice none 0 0]) ?_ 1 _ rfl; (with_reducible repeat (first | refine blk_drewN ?_ _ | refine blk_drew ?_ | refine blk_alloc ?_ _)); refine blk_put (cs := #[.string (⟨#[]⟩ : ByteArray), .int .i64 0, .string (⟨#[]⟩ : ByteArray), .int .i64 0, .bool false, .bool false, .slice none 0 0]) ?_ 0 _ rfl; (with_reducible repeat (first | refine blk_drewN ?_ _ | refine blk_drew ?_ | refine blk_alloc ?_ _)); exact BK106.out) Tryd.underlying26 rfl (by kernel_rfl)) rfl ?_
    exact ⟨_, by first | rfl | (simp [errW_none, errW_some] <;> rfl) | (simp [*, errW_none, errW_some] <;> rfl), by (with_reducible repeat (first | apply Kd.R_alloc | apply Kd.R_drewN | apply Kd.R_drew)); exact Kd.R_mono (Kd.R_far (p := ⟨gb106, 6, none⟩) (Kd.R_far (p := ⟨gb106, 5, none⟩) (Kd.R_far (p := ⟨gb106, 4, none⟩) (Kd.R_far (p := ⟨gb106, 3, none⟩) (Kd.R_far (p := ⟨gb106, 2, none⟩) (Kd.R_far (p := ⟨gb106, 1, none⟩) (Kd.R_far (p := ⟨gb106, 0, none⟩) (Kd.R_types HO110.out BK106.out (by decide)) (fun _ hk => hk.2) (.string a0_0)) (fun _ hk => hk.2) (.int .i64 a0_1)) (fun _ hk => hk.2) (.string a0_2)) (fun _ hk => hk.2) (.int .i64 a0_3)) (fun _ hk => hk.2) (.bool a0_4)) (fun _ hk => hk.2) (.bool a0_5)) (fun _ hk => hk.2) (.slice (some ⟨go17, 0, none⟩) t108.length co25)) (fun _ hk => trivial), by repeat (first | (with_reducible first | exact HB.out | apply below_alloc | apply pw_below_drewN | apply below_drew1 | refine below_set ?_ GE105.out | refine below_set ?_ GE106.out) | exact HB.out)⟩
   ·rw [if_neg c16] at H
    exact absurd H (by simp)
  ·rw [if_neg c15] at H
   exact absurd H (by simp)

end Go.Proofs.YtpmieapgbdbabaaDoor.QAll
end

section
/- squelchlaw05.awake, walked by hand: the document's example comes out as it says. -/
set_option linter.unusedVariables false
set_option linter.unusedSimpArgs false
namespace Go.Proofs.YtpmieapgbdbabaaDoor.QAll
open Go.RowKit Go.Shelf Go.Proofs.YtpmieapgbdbabaaDoorW.PrintWords Go.Proofs.YtpmieapgbdbabaaDoorW.PrintLast Go.Proofs.YtpmieapgbdbabaaDoorW.PrintMore

def exC : S93 := ⟨⟨⟨#[67]⟩, 0⟩, false⟩
def exD : S93 := ⟨⟨⟨#[68]⟩, 0⟩, false⟩
def exC1 : S93 := ⟨⟨⟨#[67]⟩, 0⟩, true⟩
theorem via_ex : path_Via.f 10 ⟨#[65]⟩ 0 ⟨#[66]⟩ 0 true [⟨⟨#[67]⟩, 0⟩, ⟨⟨#[68]⟩, 0⟩] = some (⟨#[66]⟩, 0, ⟨#[65]⟩, 0, true, false, [exC, exD], 0) := by kernel_rfl
theorem sent_ex : path_Sent.f ⟨#[66]⟩ 0 ⟨#[65]⟩ 0 true false [exC, exD] = some (⟨#[66]⟩, 0, ⟨#[65]⟩, 0, true, false, [exC1, exD], true) := by kernel_rfl
theorem next_ex : path_Next.f ⟨#[66]⟩ 0 ⟨#[65]⟩ 0 true false [exC1, exD] = some (⟨#[68]⟩, 0, true) := by kernel_rfl
theorem text_ex : path_Text.f ⟨#[66]⟩ 0 ⟨#[65]⟩ 0 true false [exC1, exD] = some ⟨#[65, 62, 66, 44, 67, 42, 44, 68]⟩ := by kernel_rfl
theorem command_ex : path_Command.f ⟨#[66]⟩ 0 ⟨#[65]⟩ 0 true false [exC1, exD] = some true := by kernel_rfl
def squelchlaw05_awake.f : Option Bool := some true
set_option maxHeartbeats 1000000 in
set_option maxRecDepth 100000 in
theorem squelchlaw05_awake.calls (r : Bool) (w : World) (h : squelchlaw05_awake.f = some r) :
    Calls Tryd.prog 15 #[] w fun e w' => e = .returned (.bool r) ∧ Below w.heap.size w w' := by
  obtain rfl := Option.some.inj h
  have hu26 := Tryd.underlying26
  have hu23 := Tryd.underlying23
  have HB := Aside0.mk (Below.refl w.heap.size w)
  go_enter Tryd.func15, Tryd.ntmps15
  go_wp2_with (fail)
  generalize hW4 : (((w.alloc (Obj.cells #[Value.string ⟨#[65]⟩, Value.int IntKind.i64 0] 23)).alloc (Obj.cells #[Value.string ⟨#[66]⟩, Value.int IntKind.i64 0] 23)).alloc (Obj.cells #[Value.string ⟨#[67]⟩, Value.int IntKind.i64 0] 23)).alloc (Obj.cells #[Value.string ⟨#[68]⟩, Value.int IntKind.i64 0] 23) = W4
  have hs4 : W4.heap.size = w.heap.size + 1 + 1 + 1 + 1 := by rw [← hW4]; simp
  have HD4 := Aside0.mk (show W4.heap[w.heap.size + 1 + 1 + 1]? = some (.cells #[.string ⟨#[68]⟩, .int .i64 0] 23 (0, 0)) by
    rw [← hW4]
    have := heap_alloc_new (((w.alloc (Obj.cells #[Value.string ⟨#[65]⟩, Value.int IntKind.i64 0] 23)).alloc (Obj.cells #[Value.string ⟨#[66]⟩, Value.int IntKind.i64 0] 23)).alloc (Obj.cells #[Value.string ⟨#[67]⟩, Value.int IntKind.i64 0] 23)) (Obj.cells #[Value.string ⟨#[68]⟩, Value.int IntKind.i64 0] 23)
    simpa using this)
  have HB4 := Aside0.mk (show Below w.heap.size w W4 by
    rw [← hW4]
    exact ((((Below.refl _ _).alloc (Nat.le_refl _) _).alloc (by simp) _).alloc (by simp; omega) _).alloc (by simp; omega) _)
  rw [← hs4]
  clear hW4
  have hR : Kd.R k23 23 (W4.alloc (.cells #[.string ⟨#[67]⟩, .int .i64 0, .string ⟨#[68]⟩, .int .i64 0] 23)) W4.heap.size (fun _ => True) (.slice (some ⟨W4.heap.size, 0, none⟩) 2 2) [⟨⟨#[67]⟩, 0⟩, ⟨⟨#[68]⟩, 0⟩] :=
    ⟨fun _ _ => trivial, OwnRow.lit W4 W4.heap.size (inner := [.string ⟨#[67]⟩, .int .i64 0, .string ⟨#[68]⟩, .int .i64 0]) (Reps.c2 (k23_mkM _ _ _ (⟨⟨#[67]⟩, 0⟩ : S23)) (Reps.c2 (k23_mkM _ _ _ (⟨⟨#[68]⟩, 0⟩ : S23)) (Reps.none _ _))) (Nat.le_refl _) (by decide)⟩
  obtain ⟨A, c, hv, hle, hC⟩ := Kd.R_reads hR
  cases hv
  refine (path_Via.calls 10 ⟨#[65]⟩ 0 ⟨#[66]⟩ 0 true (some ⟨W4.heap.size, 0, none⟩) 2 [⟨⟨#[67]⟩, 0⟩, ⟨⟨#[68]⟩, 0⟩] _ _ _ _ _ _ _ _ _ hC hle via_ex).mono ?_
  rintro e w5 ⟨v6, rfl, ho, hb⟩
  obtain ⟨A1, c1, rfl, hle1, hC1⟩ := Kd.R_reads ho
  have HC1 := Aside0.mk hC1
  have hz4 := hs4
  have HD5 := Aside0.mk ((hb.block (w.heap.size + 1 + 1 + 1) (by simp; omega)).trans ((Below.heap_alloc W4 _ _ (by omega)).trans HD4.out))
  have HB5 := Aside0.mk (below_then (HB4.out.alloc HB4.out.size _) (by simp; omega) hb)
  have hz5 : w.heap.size + 5 ≤ w5.heap.size := by have := hb.size; simp at this; omega
  clear hb ho hC1 hC hR HD4 HB4 hle HB
  go_wp2_with (fail)
  refine (path_Sent.calls ⟨#[66]⟩ 0 ⟨#[65]⟩ 0 true false A1 c1 [exC, exD] _ _ _ _ _ _ _ _ _ (Kd.C_below HC1.out ((Below.refl _ _).alloc (Nat.le_refl _) _)) hle1 sent_ex).mono ?_
  rintro e w6 ⟨v6, rfl, ho, hb⟩
  obtain ⟨A2, c2, rfl, hle2, hC2⟩ := Kd.R_reads ho
  have HC2 := Aside0.mk hC2
  have HD6 := Aside0.mk ((hb.block (w.heap.size + 1 + 1 + 1) (by simp; omega)).trans ((Below.heap_alloc w5 _ _ (by omega)).trans HD5.out))
  have HB6 := Aside0.mk (below_then (HB5.out.alloc HB5.out.size _) (by simp; omega) hb)
  have hz6 : w5.heap.size + 1 ≤ w6.heap.size := by have := hb.size; simpa using this
  clear hb ho hC2 HD5 HB5 HC1
  go_wp2_with (fail)
  refine (path_Next.calls ⟨#[66]⟩ 0 ⟨#[65]⟩ 0 true false A2 c2 [exC1, exD] _ _ _ _ (Kd.C_below HC2.out ((Below.refl _ _).alloc (Nat.le_refl _) _)) hle2 next_ex).mono ?_
  rintro e w7 ⟨rfl, hb⟩
  have HD7 := Aside0.mk ((hb.block (w.heap.size + 1 + 1 + 1) (by simp; omega)).trans ((Below.heap_alloc w6 _ _ (by omega)).trans HD6.out))
  have HQ7 := Aside0.mk ((hb.block w6.heap.size (by simp)).trans (heap_alloc_new w6 _))
  have HB7 := Aside0.mk (below_then (HB6.out.alloc HB6.out.size _) (by simp; omega) hb)
  have HC7 := Aside0.mk (Kd.C_below (Kd.C_below HC2.out ((Below.refl _ _).alloc (Nat.le_refl _) _)) hb)
  have hz7 : w6.heap.size + 1 ≤ w7.heap.size := by have := hb.size; simpa using this
  clear hb HD6 HB6 HC2
  have HQ8 := Aside0.mk ((Below.heap_alloc w7 (Obj.cells #[Value.string ⟨#[68]⟩, Value.int IntKind.i64 0] 23) w6.heap.size (by omega)).trans HQ7.out)
  have HD8 := Aside0.mk ((Below.heap_alloc w7 (Obj.cells #[Value.string ⟨#[68]⟩, Value.int IntKind.i64 0] 23) (w.heap.size + 1 + 1 + 1) (by omega)).trans HD7.out)
  have q0 := blk_cell HQ8.out 0
  have q1 := blk_cell HQ8.out 1
  have q2 := blk_cell HQ8.out 2
  have q3 := blk_cell HQ8.out 3
  have q4 := blk_cell HQ8.out 4
  have q5 := blk_cell HQ8.out 5
  have q6 := blk_cell HQ8.out 6
  replace q0 : (w7.alloc (Obj.cells #[Value.string ⟨#[68]⟩, Value.int IntKind.i64 0] 23)).cell? ⟨w6.heap.size, 0, none⟩ = some (.string ⟨#[66]⟩) := q0
  replace q1 : (w7.alloc (Obj.cells #[Value.string ⟨#[68]⟩, Value.int IntKind.i64 0] 23)).cell? ⟨w6.heap.size, 1, none⟩ = some (.int .i64 0) := q1
  replace q2 : (w7.alloc (Obj.cells #[Value.string ⟨#[68]⟩, Value.int IntKind.i64 0] 23)).cell? ⟨w6.heap.size, 2, none⟩ = some (.string ⟨#[65]⟩) := q2
  replace q3 : (w7.alloc (Obj.cells #[Value.string ⟨#[68]⟩, Value.int IntKind.i64 0] 23)).cell? ⟨w6.heap.size, 3, none⟩ = some (.int .i64 0) := q3
  replace q4 : (w7.alloc (Obj.cells #[Value.string ⟨#[68]⟩, Value.int IntKind.i64 0] 23)).cell? ⟨w6.heap.size, 4, none⟩ = some (.bool true) := q4
  replace q5 : (w7.alloc (Obj.cells #[Value.string ⟨#[68]⟩, Value.int IntKind.i64 0] 23)).cell? ⟨w6.heap.size, 5, none⟩ = some (.bool false) := q5
  replace q6 : (w7.alloc (Obj.cells #[Value.string ⟨#[68]⟩, Value.int IntKind.i64 0] 23)).cell? ⟨w6.heap.size, 6, none⟩ = some (.slice A2 2 c2) := q6
  have d0 : (w7.alloc (Obj.cells #[Value.string ⟨#[68]⟩, Value.int IntKind.i64 0] 23)).cell? ⟨w.heap.size + 1 + 1 + 1, 0, none⟩ = some (.string ⟨#[68]⟩) := blk_cell HD8.out 0
  have d1 : (w7.alloc (Obj.cells #[Value.string ⟨#[68]⟩, Value.int IntKind.i64 0] 23)).cell? ⟨w.heap.size + 1 + 1 + 1, 1, none⟩ = some (.int .i64 0) := blk_cell HD8.out 1
  go_wp2_with (fail)
  refine (path_Text.calls ⟨#[66]⟩ 0 ⟨#[65]⟩ 0 true false A2 c2 [exC1, exD] _ _ (Kd.C_below HC7.out ((Below.refl _ _).alloc (Nat.le_refl _) _)) hle2 text_ex).mono ?_
  rintro e w9 ⟨rfl, hb⟩
  have HQ9 := Aside0.mk ((hb.block w6.heap.size (by simp; omega)).trans HQ8.out)
  have HD9 := Aside0.mk ((hb.block (w.heap.size + 1 + 1 + 1) (by simp; omega)).trans HD8.out)
  have HN9 := Aside0.mk ((hb.block w7.heap.size (by simp)).trans (heap_alloc_new w7 _))
  have HB9 := Aside0.mk (below_then (HB7.out.alloc HB7.out.size _) (by simp; omega) hb)
  have HC9 := Aside0.mk (Kd.C_below (Kd.C_below HC7.out ((Below.refl _ _).alloc (Nat.le_refl _) _)) hb)
  clear hb q0 q1 q2 q3 q4 q5 q6 d0 d1
  have q0 := blk_cell HQ9.out 0
  have q1 := blk_cell HQ9.out 1
  have q2 := blk_cell HQ9.out 2
  have q3 := blk_cell HQ9.out 3
  have q4 := blk_cell HQ9.out 4
  have q5 := blk_cell HQ9.out 5
  have q6 := blk_cell HQ9.out 6
  replace q0 : w9.cell? ⟨w6.heap.size, 0, none⟩ = some (.string ⟨#[66]⟩) := q0
  replace q1 : w9.cell? ⟨w6.heap.size, 1, none⟩ = some (.int .i64 0) := q1
  replace q2 : w9.cell? ⟨w6.heap.size, 2, none⟩ = some (.string ⟨#[65]⟩) := q2
  replace q3 : w9.cell? ⟨w6.heap.size, 3, none⟩ = some (.int .i64 0) := q3
  replace q4 : w9.cell? ⟨w6.heap.size, 4, none⟩ = some (.bool true) := q4
  replace q5 : w9.cell? ⟨w6.heap.size, 5, none⟩ = some (.bool false) := q5
  replace q6 : w9.cell? ⟨w6.heap.size, 6, none⟩ = some (.slice A2 2 c2) := q6
  have d0 : w9.cell? ⟨w.heap.size + 1 + 1 + 1, 0, none⟩ = some (.string ⟨#[68]⟩) := blk_cell HD9.out 0
  have d1 : w9.cell? ⟨w.heap.size + 1 + 1 + 1, 1, none⟩ = some (.int .i64 0) := blk_cell HD9.out 1
  have n0 : w9.cell? ⟨w7.heap.size, 0, none⟩ = some (.string ⟨#[68]⟩) := blk_cell HN9.out 0
  have n1 : w9.cell? ⟨w7.heap.size, 1, none⟩ = some (.int .i64 0) := blk_cell HN9.out 1
  go_wp2_with (fail)
  refine (path_Command.calls ⟨#[66]⟩ 0 ⟨#[65]⟩ 0 true false A2 c2 [exC1, exD] _ _ HC9.out hle2 command_ex).mono ?_
  rintro e w10 ⟨rfl, hb⟩
  go_wp2_with (fail)
  go_ret
  exact ⟨rfl, below_then HB9.out HB9.out.size hb⟩
end Go.Proofs.YtpmieapgbdbabaaDoor.QAll
end

section
/- Walks, written by a program of this session (wip/pp): a Go function comes to what the Lean function beside it tells. -/
namespace Go.Proofs.YtpmieapgbdbabaaDoor.QAll
open Go.RowKit Go.Proofs.YtpmieapgbdbabaaDoorW.PrintWords Go.Proofs.YtpmieapgbdbabaaDoorW.PrintLast Go.Proofs.YtpmieapgbdbabaaDoorW.PrintMore
set_option linter.unusedVariables false
set_option linter.unusedSimpArgs false

attribute [local go_sem high] eqA23
def squelchlaw05_PathParses.f (k : Nat) (a0 : ByteArray) : Option (Bool) := (squelchlaw05_awake.f).bind fun t651 => (if t651 = true then (if (a0.size : Int) > 300 then (some true) else ((path_Parse.f k a0).bind fun bt652 => ((squelchref05_Parse.f k a0).bind fun bt663 => (if bt652.2.2.2.2.2.2.2 = bt663.2 then (if bt663.2 = 0 then ((squelchlaw05_Plain.f k bt652.1 bt652.2.1 bt652.2.2.1 bt652.2.2.2.1 bt652.2.2.2.2.1 bt652.2.2.2.2.2.1 bt652.2.2.2.2.2.2.1).bind fun t668 => ((squelchref05_Same.f k t668 bt663.1).bind fun t671 => (if t671 = true then ((path_Right.f bt652.1 bt652.2.1 bt652.2.2.1 bt652.2.2.2.1 bt652.2.2.2.2.1 bt652.2.2.2.2.2.1 bt652.2.2.2.2.2.2.1).bind fun t672 => (if t672 = true then ((path_Command.f bt652.1 bt652.2.1 bt652.2.2.1 bt652.2.2.2.1 bt652.2.2.2.2.1 bt652.2.2.2.2.2.1 bt652.2.2.2.2.2.2.1).bind fun t673 => (some t673)) else (some false))) else (some false)))) else (if (bt652.1.toList == ([] : List UInt8) && (bt652.2.1 == 0)) = true then (if (bt652.2.2.1.toList == ([] : List UInt8) && (bt652.2.2.2.1 == 0)) = true then (some ((bt652.2.2.2.2.2.2.1.length : Int) == 0)) else (some false)) else (some false))) else (some false))))) else (some false))
def squelchlaw05_PathParses.T11 : Bool × List (List Nat × List Nat) := (true, [([], []), ([0], [0]), ([], []), ([1, 2, 1], [1, 2]), ([3, 3], [3]), ([4], [4]), ([5, 4, 4], [4, 5]), ([4, 6], [4, 6]), ([7, 6], [7]), ([8], [8]), ([9, 8, 8], [8, 9]), ([8, 10], [8, 10]), ([11, 10, 0, 1, 2, 3, 4, 5, 6, 7, 8, 9, 10, 11], [11])])
def squelchlaw05_PathParses.B11 : List Nat := [0, 1, 0, 7, 15, 31, 63, 127, 255, 511, 1023, 2047, 4095]
theorem squelchlaw05_PathParses.tab11 : rtab .any (opsOf Tryd.f13 11) = squelchlaw05_PathParses.T11 := by kernel_rfl
theorem squelchlaw05_PathParses.bits11 : waitsOk squelchlaw05_PathParses.T11.2 squelchlaw05_PathParses.B11 = true := by kernel_rfl
set_option maxHeartbeats 8000000 in
set_option maxRecDepth 100000 in
theorem squelchlaw05_PathParses.calls (k : Nat) (a0 : ByteArray) (r : Bool) (w : World) (hE_ : EnvW w) (hT_ : r = true) (h : squelchlaw05_PathParses.f k a0 = some r) :
  Calls Tryd.prog 13 #[.string a0] w fun e w' => e = .returned (.bool r) ∧ Below w.heap.size w w' := by
 have hu26 := Tryd.underlying26
 have hu31 := Tryd.underlying31
 have hu23 := Tryd.underlying23
 have HB := Aside0.mk (Below.refl w.heap.size w)
 have HE := Aside0.mk hE_
 clear hE_
 have HT_ := Aside0.mk hT_
 clear hT_
 have H : ((squelchlaw05_awake.f).bind fun t651 => (if t651 = true then (if (a0.size : Int) > 300 then (some true) else ((path_Parse.f k a0).bind fun bt652 => ((squelchref05_Parse.f k a0).bind fun bt663 => (if bt652.2.2.2.2.2.2.2 = bt663.2 then (if bt663.2 = 0 then ((squelchlaw05_Plain.f k bt652.1 bt652.2.1 bt652.2.2.1 bt652.2.2.2.1 bt652.2.2.2.2.1 bt652.2.2.2.2.2.1 bt652.2.2.2.2.2.2.1).bind fun t668 => ((squelchref05_Same.f k t668 bt663.1).bind fun t671 => (if t671 = true then ((path_Right.f bt652.1 bt652.2.1 bt652.2.2.1 bt652.2.2.2.1 bt652.2.2.2.2.1 bt652.2.2.2.2.2.1 bt652.2.2.2.2.2.2.1).bind fun t672 => (if t672 = true then ((path_Command.f bt652.1 bt652.2.1 bt652.2.2.1 bt652.2.2.2.1 bt652.2.2.2.2.1 bt652.2.2.2.2.2.1 bt652.2.2.2.2.2.2.1).bind fun t673 => (some t673)) else (some false))) else (some false)))) else (if (bt652.1.toList == ([] : List UInt8) && (bt652.2.1 == 0)) = true then (if (bt652.2.2.1.toList == ([] : List UInt8) && (bt652.2.2.2.1 == 0)) = true then (some ((bt652.2.2.2.2.2.2.1.length : Int) == 0)) else (some false)) else (some false))) else (some false))))) else (some false))) = some r := h
 clear h
 replace H := Option.bind_eq_some_iff.mp H
 obtain ⟨t651, A20, H⟩ := H
 replace H : (if t651 = true then (if (a0.size : Int) > 300 then (some true) else ((path_Parse.f k a0).bind fun bt652 => ((squelchref05_Parse.f k a0).bind fun bt663 => (if bt652.2.2.2.2.2.2.2 = bt663.2 then (if bt663.2 = 0 then ((squelchlaw05_Plain.f k bt652.1 bt652.2.1 bt652.2.2.1 bt652.2.2.2.1 bt652.2.2.2.2.1 bt652.2.2.2.2.2.1 bt652.2.2.2.2.2.2.1).bind fun t668 => ((squelchref05_Same.f k t668 bt663.1).bind fun t671 => (if t671 = true then ((path_Right.f bt652.1 bt652.2.1 bt652.2.2.1 bt652.2.2.2.1 bt652.2.2.2.2.1 bt652.2.2.2.2.2.1 bt652.2.2.2.2.2.2.1).bind fun t672 => (if t672 = true then ((path_Command.f bt652.1 bt652.2.1 bt652.2.2.1 bt652.2.2.2.1 bt652.2.2.2.2.1 bt652.2.2.2.2.2.1 bt652.2.2.2.2.2.2.1).bind fun t673 => (some t673)) else (some false))) else (some false)))) else (if (bt652.1.toList == ([] : List UInt8) && (bt652.2.1 == 0)) = true then (if (bt652.2.2.1.toList == ([] : List UInt8) && (bt652.2.2.2.1 == 0)) = true then (some ((bt652.2.2.2.2.2.2.1.length : Int) == 0)) else (some false)) else (some false))) else (some false))))) else (some false)) = some r := H
 have A2 := Aside0.mk A20
 clear A20
 by_cases c3 : t651 = true
 ·subst c3
  have H1 : (if (a0.size : Int) > 300 then (some true) else ((path_Parse.f k a0).bind fun bt652 => ((squelchref05_Parse.f k a0).bind fun bt663 => (if bt652.2.2.2.2.2.2.2 = bt663.2 then (if bt663.2 = 0 then ((squelchlaw05_Plain.f k bt652.1 bt652.2.1 bt652.2.2.1 bt652.2.2.2.1 bt652.2.2.2.2.1 bt652.2.2.2.2.2.1 bt652.2.2.2.2.2.2.1).bind fun t668 => ((squelchref05_Same.f k t668 bt663.1).bind fun t671 => (if t671 = true then ((path_Right.f bt652.1 bt652.2.1 bt652.2.2.1 bt652.2.2.2.1 bt652.2.2.2.2.1 bt652.2.2.2.2.2.1 bt652.2.2.2.2.2.2.1).bind fun t672 => (if t672 = true then ((path_Command.f bt652.1 bt652.2.1 bt652.2.2.1 bt652.2.2.2.1 bt652.2.2.2.2.1 bt652.2.2.2.2.2.1 bt652.2.2.2.2.2.2.1).bind fun t673 => (some t673)) else (some false))) else (some false)))) else (if (bt652.1.toList == ([] : List UInt8) && (bt652.2.1 == 0)) = true then (if (bt652.2.2.1.toList == ([] : List UInt8) && (bt652.2.2.2.1 == 0)) = true then (some ((bt652.2.2.2.2.2.2.1.length : Int) == 0)) else (some false)) else (some false))) else (some false))))) = some r := by rw [if_pos rfl] at H; exact H
  clear H
  have H := H1
  clear H1
  by_cases c4 : (a0.size : Int) > 300
  ·rw [if_pos c4] at H
   have c4b0 : decide (300 < (a0.size : Int)) = true := decide_eq_true c4
   have c4b1 : decide (300 < a0.size) = true := decide_eq_true (by omega)
   clear c4
   obtain rfl := Option.some.inj H
   go_enter Tryd.func13, Tryd.ntmps13
   go_wp2_with (first | ((with_reducible refine gate_callee (f := 15) rfl ?_); refine goesL_ (some 7) rfl rfl Tryd.func15 (by kernel_rfl) rfl #[] rfl (by (try simp only [List.map_toArray, List.map_cons, List.map_nil]); first | done | rfl | (simp only [List.length_drop, List.length_take]; rfl)) ?_; (with_reducible refine (squelchlaw05_awake.calls  true _ A2.out).mono ?_); rintro e w5 ⟨rfl, hb⟩; refine ⟨_, rfl, ?_⟩; have n0_ := Aside0.mk (below_step (by repeat (first | (with_reducible first | exact HB.out | apply below_alloc | apply pw_below_drewN | apply below_drew1) | exact HB.out)) hb); clear HB; have HB := n0_; clear n0_; (try clear hb); (try clear hb2); (try clear hk); (try clear hi)))
   go_ret
   exact ⟨by first | rfl | (simp [errW_none, errW_some] <;> rfl) | (simp [*, errW_none, errW_some] <;> rfl), by repeat (first | (with_reducible first | exact HB.out | apply below_alloc | apply pw_below_drewN | apply below_drew1) | exact HB.out)⟩
  ·rw [if_neg c4] at H
   have c4b0 : decide (300 < (a0.size : Int)) = false := decide_eq_false c4
   have c4b1 : decide (300 < a0.size) = false := decide_eq_false (by omega)
   clear c4
   replace H := Option.bind_eq_some_iff.mp H
   obtain ⟨⟨t652, t653, t654, t655, t656, t657, t658, t661⟩, A60, H⟩ := H
   replace H : ((squelchref05_Parse.f k a0).bind fun bt663 => (if t661 = bt663.2 then (if bt663.2 = 0 then ((squelchlaw05_Plain.f k t652 t653 t654 t655 t656 t657 t658).bind fun t668 => ((squelchref05_Same.f k t668 bt663.1).bind fun t671 => (if t671 = true then ((path_Right.f t652 t653 t654 t655 t656 t657 t658).bind fun t672 => (if t672 = true then ((path_Command.f t652 t653 t654 t655 t656 t657 t658).bind fun t673 => (some t673)) else (some false))) else (some false)))) else (if (t652.toList == ([] : List UInt8) && (t653 == 0)) = true then (if (t654.toList == ([] : List UInt8) && (t655 == 0)) = true then (some ((t658.length : Int) == 0)) else (some false)) else (some false))) else (some false))) = some r := H
   have A6 := Aside0.mk A60
   clear A60
   replace H := Option.bind_eq_some_iff.mp H
   obtain ⟨⟨t663, t666⟩, A70, H⟩ := H
   replace H : (if t661 = t666 then (if t666 = 0 then ((squelchlaw05_Plain.f k t652 t653 t654 t655 t656 t657 t658).bind fun t668 => ((squelchref05_Same.f k t668 t663).bind fun t671 => (if t671 = true then ((path_Right.f t652 t653 t654 t655 t656 t657 t658).bind fun t672 => (if t672 = true then ((path_Command.f t652 t653 t654 t655 t656 t657 t658).bind fun t673 => (some t673)) else (some false))) else (some false)))) else (if (t652.toList == ([] : List UInt8) && (t653 == 0)) = true then (if (t654.toList == ([] : List UInt8) && (t655 == 0)) = true then (some ((t658.length : Int) == 0)) else (some false)) else (some false))) else (some false)) = some r := H
   have A7 := Aside0.mk A70
   clear A70
   by_cases c8 : t661 = t666
   ·rw [if_pos c8] at H
    have c8b0 : (t661 == t666) = true := beq_iff_eq.mpr c8
    have c8b1 : (t661 != t666) = false := bne_eq_false_iff_eq.mpr c8
    clear c8
    by_cases c9 : t666 = 0
    ·rw [if_pos c9] at H
     have c9b0 : (t666 == 0) = true := beq_iff_eq.mpr c9
     have c9b1 : (t666 != 0) = false := bne_eq_false_iff_eq.mpr c9
     clear c9
     replace H := Option.bind_eq_some_iff.mp H
     obtain ⟨t668, A100, H⟩ := H
     replace H : ((squelchref05_Same.f k t668 t663).bind fun t671 => (if t671 = true then ((path_Right.f t652 t653 t654 t655 t656 t657 t658).bind fun t672 => (if t672 = true then ((path_Command.f t652 t653 t654 t655 t656 t657 t658).bind fun t673 => (some t673)) else (some false))) else (some false))) = some r := H
     have A10 := Aside0.mk A100
     clear A100
     replace H := Option.bind_eq_some_iff.mp H
     obtain ⟨t671, A110, H⟩ := H
     replace H : (if t671 = true then ((path_Right.f t652 t653 t654 t655 t656 t657 t658).bind fun t672 => (if t672 = true then ((path_Command.f t652 t653 t654 t655 t656 t657 t658).bind fun t673 => (some t673)) else (some false))) else (some false)) = some r := H
     have A11 := Aside0.mk A110
     clear A110
     by_cases c12 : t671 = true
     ·subst c12
      have H1 : ((path_Right.f t652 t653 t654 t655 t656 t657 t658).bind fun t672 => (if t672 = true then ((path_Command.f t652 t653 t654 t655 t656 t657 t658).bind fun t673 => (some t673)) else (some false))) = some r := by rw [if_pos rfl] at H; exact H
      clear H
      have H := H1
      clear H1
      replace H := Option.bind_eq_some_iff.mp H
      obtain ⟨t672, A130, H⟩ := H
      replace H : (if t672 = true then ((path_Command.f t652 t653 t654 t655 t656 t657 t658).bind fun t673 => (some t673)) else (some false)) = some r := H
      have A13 := Aside0.mk A130
      clear A130
      by_cases c14 : t672 = true
      ·subst c14
       have H1 : ((path_Command.f t652 t653 t654 t655 t656 t657 t658).bind fun t673 => (some t673)) = some r := by rw [if_pos rfl] at H; exact H
       clear H
       have H := H1
       clear H1
       replace H := Option.bind_eq_some_iff.mp H
       obtain ⟨t673, A150, H⟩ := H
       replace H : (some t673) = some r := H
       have A15 := Aside0.mk A150
       clear A150
       obtain rfl := Option.some.inj H
       go_enter Tryd.func13, Tryd.ntmps13
       try go_wp2_with (first | ((with_reducible refine gate_callee (f := 15) rfl ?_); refine goesL_ (some 7) rfl rfl Tryd.func15 (by kernel_rfl) rfl #[] rfl (by (try simp only [List.map_toArray, List.map_cons, List.map_nil]); first | done | rfl | (simp only [List.length_drop, List.length_take]; rfl)) ?_; (with_reducible refine (squelchlaw05_awake.calls  true _ A2.out).mono ?_); rintro e w16 ⟨rfl, hb⟩; refine ⟨_, rfl, ?_⟩; have n0_ := Aside0.mk (below_step (by repeat (first | (with_reducible first | exact HB.out | apply below_alloc | apply pw_below_drewN | apply below_drew1) | exact HB.out)) hb); clear HB; have HB := n0_; clear n0_; (try clear hb); (try clear hb2); (try clear hk); (try clear hi)) | ((with_reducible refine gate_callee (f := 56) rfl ?_); refine goesL_ (some 14) rfl rfl Tryd.func56 (by kernel_rfl) rfl #[.string a0] rfl (by (try simp only [List.map_toArray, List.map_cons, List.map_nil]); first | done | rfl | (simp only [List.length_drop, List.length_take]; rfl)) ?_; (with_reducible refine (path_Parse.calls k a0 t652 t653 t654 t655 t656 t657 t658 t661 _ ?side1 A6.out).mono ?_); (case side1 => exact EnvW.below HE.out (by repeat (first | (with_reducible first | exact HB.out | apply below_alloc | apply pw_below_drewN | apply below_drew1) | exact HB.out))); rintro e w17 ⟨v659, rfl, ho0, hb⟩; refine ⟨_, rfl, ?_⟩; have n0_ := Aside0.mk (Kd.R_lower ho0 (below_size (by repeat (first | (with_reducible first | exact HB.out | apply below_alloc | apply pw_below_drewN | apply below_drew1) | exact HB.out)))); have n1_ := Aside0.mk (below_step (by repeat (first | (with_reducible first | exact HB.out | apply below_alloc | apply pw_below_drewN | apply below_drew1) | exact HB.out)) hb); clear HB; have HO660 := n0_; have HB := n1_; clear n0_ n1_; (try clear hb); (try clear hb2); (try clear hk); (try clear hi); (try clear ho0)) | ((with_reducible refine gate_dst (N := 3) rfl ?_); (try (refine gate_guard (by rfl) ?_; dsimp only)); refine box_event ?hg (N := 3) ?hd (cs := #[.string (⟨#[]⟩ : ByteArray), .int .i64 0, .string (⟨#[]⟩ : ByteArray), .int .i64 0, .bool false, .bool false, .slice none 0 0]) (t := 26) ?hr ?_; (case hd => rfl); (case hg => rfl); (case hr => first | (go_simp; done) | (go_simp; rfl)); intro gb662 hg w18 hbox hb; have n0_ := Aside0.mk (Kd.R_below (by (with_reducible repeat (first | apply Kd.R_alloc | apply Kd.R_drewN | apply Kd.R_drew)); exact HO660.out) hb); have n1_ := Aside0.mk (below_step (by repeat (first | (with_reducible first | exact HB.out | apply below_alloc | apply pw_below_drewN | apply below_drew1) | exact HB.out)) hb); have n2_ := Aside0.mk (hbox); have n3_ := Aside0.mk ((by rw [hg]; exact (below_size (by repeat (first | (with_reducible first | exact HB.out | apply below_alloc | apply pw_below_drewN | apply below_drew1) | exact HB.out))) : w.heap.size ≤ gb662)); have n4_ := Aside0.mk ((by rw [hg]; exact (below_size (by repeat (first | (with_reducible first | exact HB.out | apply below_alloc | apply pw_below_drewN | apply below_drew1) | exact HB.out))) : w.heap.size ≤ gb662)); clear HO660; clear HB; have HO660 := n0_; have HB := n1_; have BK662 := n2_; have GW662 := n3_; have GE662 := n4_; clear n0_ n1_ n2_ n3_ n4_; clear hb hbox hg; have hcz19_0 : w18.cell? ⟨gb662, 0, none⟩ = some (.string (⟨#[]⟩ : ByteArray)) := (blk_cell BK662.out 0).trans rfl; have hcz19_1 : w18.cell? ⟨gb662, 1, none⟩ = some (.int .i64 0) := (blk_cell BK662.out 1).trans rfl; have hcz19_2 : w18.cell? ⟨gb662, 2, none⟩ = some (.string (⟨#[]⟩ : ByteArray)) := (blk_cell BK662.out 2).trans rfl; have hcz19_3 : w18.cell? ⟨gb662, 3, none⟩ = some (.int .i64 0) := (blk_cell BK662.out 3).trans rfl; have hcz19_4 : w18.cell? ⟨gb662, 4, none⟩ = some (.bool false) := (blk_cell BK662.out 4).trans rfl; have hcz19_5 : w18.cell? ⟨gb662, 5, none⟩ = some (.bool false) := (blk_cell BK662.out 5).trans rfl; have hcz19_6 : w18.cell? ⟨gb662, 6, none⟩ = some (.slice none 0 0) := (blk_cell BK662.out 6).trans rfl; have hfz19_0 := blk_frozen BK662.out 0; have hfz19_1 := blk_frozen BK662.out 1; have hfz19_2 := blk_frozen BK662.out 2; have hfz19_3 := blk_frozen BK662.out 3; have hfz19_4 := blk_frozen BK662.out 4; have hfz19_5 := blk_frozen BK662.out 5; have hfz19_6 := blk_frozen BK662.out 6; obtain ⟨Ao20, co20, eo20⟩ := Kd.R_slice HO660.out; subst eo20) | ((with_reducible refine gate_callee (f := 57) rfl ?_); refine goesL_ (some 19) rfl rfl Tryd.func57 (by kernel_rfl) rfl #[.string a0] rfl (by (try simp only [List.map_toArray, List.map_cons, List.map_nil]); first | done | rfl | (simp only [List.length_drop, List.length_take]; rfl)) ?_; (with_reducible refine (squelchref05_Parse.calls k a0 t663 t666 _ A7.out).mono ?_); rintro e w21 ⟨v664, rfl, ho0, hb⟩; refine ⟨_, rfl, ?_⟩; have n0_ := Aside0.mk (Kd.R_below (by (with_reducible repeat (first | apply Kd.R_alloc | apply Kd.R_drewN | apply Kd.R_drew)); exact (Kd.R_mono (Kd.R_far (p := ⟨gb662, 6, none⟩) (Kd.R_far (p := ⟨gb662, 5, none⟩) (Kd.R_far (p := ⟨gb662, 4, none⟩) (Kd.R_far (p := ⟨gb662, 3, none⟩) (Kd.R_far (p := ⟨gb662, 2, none⟩) (Kd.R_far (p := ⟨gb662, 1, none⟩) (Kd.R_far (p := ⟨gb662, 0, none⟩) (Kd.R_types HO660.out BK662.out (by decide)) (fun _ hk => hk.2) (.string t652)) (fun _ hk => hk.2) (.int .i64 t653)) (fun _ hk => hk.2) (.string t654)) (fun _ hk => hk.2) (.int .i64 t655)) (fun _ hk => hk.2) (.bool t656)) (fun _ hk => hk.2) (.bool t657)) (fun _ hk => hk.2) (.slice Ao20 t658.length co20)) (fun _ h_ => h_.1))) hb); have n1_ := Aside0.mk (Kd.R_lower ho0 (below_size (by repeat (first | (with_reducible first | exact HB.out | apply below_alloc | apply pw_below_drewN | apply below_drew1 | refine below_set ?_ GE662.out) | exact HB.out)))); have n2_ := Aside0.mk (blk_below (g := gb662) (o := .cells #[.string t652, .int .i64 t653, .string t654, .int .i64 t655, .bool t656, .bool t657, .slice Ao20 t658.length co20] 26 (0, 0)) (by (with_reducible repeat (first | refine blk_drewN ?_ _ | refine blk_drew ?_ | refine blk_alloc ?_ _)); refine blk_put (cs := #[.string t652, .int .i64 t653, .string t654, .int .i64 t655, .bool t656, .bool t657, .slice none 0 0]) ?_ 6 _ rfl; (with_reducible repeat (first | refine blk_drewN ?_ _ | refine blk_drew ?_ | refine blk_alloc ?_ _)); refine blk_put (cs := #[.string t652, .int .i64 t653, .string t654, .int .i64 t655, .bool t656, .bool false, .slice none 0 0]) ?_ 5 _ rfl; (with_reducible repeat (first | refine blk_drewN ?_ _ | refine blk_drew ?_ | refine blk_alloc ?_ _)); refine blk_put (cs := #[.string t652, .int .i64 t653, .string t654, .int .i64 t655, .bool false, .bool false, .slice none 0 0]) ?_ 4 _ rfl; (with_reducible repeat (first | refine blk_drewN ?_ _ | refine blk_drew ?_ | refine blk_alloc ?_ _)); refine blk_put (cs := #[.string t652, .int .i64 t653, .string t654, .int .i64 0, .bool false, .bool false, .slice none 0 0]) ?_ 3 _ rfl; (with_reducible repeat (first | refine blk_drewN ?_ _ | refine blk_drew ?_ | refine blk_alloc ?_ _)); refine blk_put (cs := #[.string t652, .int .i64 t653, .string (⟨#[]⟩ : ByteArray), .int .i64 0, .bool false, .bool false, .slice none 0 0]) ?_ 2 _ rfl; (with_reducible repeat (first | refine blk_drewN ?_ _ | refine blk_drew ?_ | refine blk_alloc ?_ _)); refine blk_put (cs := #[.string t652, .int .i64 0, .string (⟨#[]⟩ : ByteArray), .int .i64 0, .bool false, .bool false, .slice none 0 0]) ?_ 1 _ rfl; (with_reducible repeat (first | refine blk_drewN ?_ _ | refine blk_drew ?_ | refine blk_alloc ?_ _)); refine blk_put (cs := #[.string (⟨#[]⟩ : ByteArray), .int .i64 0, .string (⟨#[]⟩ : ByteArray), .int .i64 0, .bool false, .bool false, .slice none 0 0]) ?_ 0 _ rfl; (with_reducible repeat (first | refine blk_drewN ?_ _ | refine blk_drew ?_ | refine blk_alloc ?_ _)); exact BK662.out) hb); have n3_ := Aside0.mk (below_step (by repeat (first | (with_reducible first | exact HB.out | apply below_alloc | apply pw_below_drewN | apply below_drew1 | refine below_set ?_ GE662.out) | exact HB.out)) hb); clear HO660; clear BK662; clear HB; have HO660 := n0_; have HO665 := n1_; have BK662 := n2_; have HB := n3_; clear n0_ n1_ n2_ n3_; (try clear hb); (try clear hb2); (try clear hk); (try clear hi); (try clear ho0)) | ((with_reducible refine gate_dst (N := 5) rfl ?_); (try (refine gate_guard (by rfl) ?_; dsimp only)); refine box_event ?hg (N := 5) ?hd (cs := #[.slice none 0 0]) (t := 31) ?hr ?_; (case hd => rfl); (case hg => rfl); (case hr => first | (go_simp; done) | (go_simp; rfl)); intro gb667 hg w22 hbox hb; have n0_ := Aside0.mk (Kd.R_below (by (with_reducible repeat (first | apply Kd.R_alloc | apply Kd.R_drewN | apply Kd.R_drew)); exact HO660.out) hb); have n1_ := Aside0.mk (Kd.R_below (by (with_reducible repeat (first | apply Kd.R_alloc | apply Kd.R_drewN | apply Kd.R_drew)); exact HO665.out) hb); have n2_ := Aside0.mk (blk_below (g := gb662) (o := .cells #[.string t652, .int .i64 t653, .string t654, .int .i64 t655, .bool t656, .bool t657, .slice Ao20 t658.length co20] 26 (0, 0)) (by (with_reducible repeat (first | refine blk_drewN ?_ _ | refine blk_drew ?_ | refine blk_alloc ?_ _)); exact BK662.out) hb); have n3_ := Aside0.mk (below_step (by repeat (first | (with_reducible first | exact HB.out | apply below_alloc | apply pw_below_drewN | apply below_drew1 | refine below_set ?_ GE662.out) | exact HB.out)) hb); have n4_ := Aside0.mk (hbox); have n5_ := Aside0.mk ((by rw [hg]; exact (below_size (by repeat (first | (with_reducible first | exact HB.out | apply below_alloc | apply pw_below_drewN | apply below_drew1 | refine below_set ?_ GE662.out) | exact HB.out))) : w.heap.size ≤ gb667)); have n6_ := Aside0.mk ((by rw [hg]; exact (below_size (by repeat (first | (with_reducible first | exact HB.out | apply below_alloc | apply pw_below_drewN | apply below_drew1 | refine below_set ?_ GE662.out) | exact HB.out))) : w.heap.size ≤ gb667)); have n7_ := Aside0.mk ((by rw [hg]; exact Nat.ne_of_lt (blk_lt (g := gb662) (o := .cells #[.string t652, .int .i64 t653, .string t654, .int .i64 t655, .bool t656, .bool t657, .slice Ao20 t658.length co20] 26 (0, 0)) (by (with_reducible repeat (first | refine blk_drewN ?_ _ | refine blk_drew ?_ | refine blk_alloc ?_ _)); exact BK662.out)) : gb662 ≠ gb667)); have n8_ := Aside0.mk ((by rw [hg]; exact Nat.ne_of_gt (blk_lt (g := gb662) (o := .cells #[.string t652, .int .i64 t653, .string t654, .int .i64 t655, .bool t656, .bool t657, .slice Ao20 t658.length co20] 26 (0, 0)) (by (with_reducible repeat (first | refine blk_drewN ?_ _ | refine blk_drew ?_ | refine blk_alloc ?_ _)); exact BK662.out)) : gb667 ≠ gb662)); clear HO660; clear HO665; clear BK662; clear HB; have HO660 := n0_; have HO665 := n1_; have BK662 := n2_; have HB := n3_; have BK667 := n4_; have GW667 := n5_; have GE667 := n6_; have NB662_667 := n7_; have NB667_662 := n8_; clear n0_ n1_ n2_ n3_ n4_ n5_ n6_ n7_ n8_; clear hb hbox hg; obtain ⟨Ao23, co23, eo23⟩ := Kd.R_slice HO665.out; subst eo23; have hnb24 := NB667_662.out; have hnc24 := NB662_667.out; have hcz25_0 : w22.cell? ⟨gb667, 0, none⟩ = some (.slice none 0 0) := (blk_cell BK667.out 0).trans rfl; have hfz25_0 := blk_frozen BK667.out 0))
       have n0_ : Aside0 (Kd.R k93 93 (w22.setCell ⟨gb667, 0, none⟩ (.slice Ao23 t663.length co23)) w.heap.size (fun _ => True) (.slice Ao20 t658.length co20) t658) := ⟨by (with_reducible repeat (first | apply Kd.R_alloc | apply Kd.R_drewN | apply Kd.R_drew)); exact Kd.R_mono (Kd.R_far (p := ⟨gb667, 0, none⟩) (Kd.R_types HO660.out BK667.out (by decide)) (fun _ hk => hk.2) (.slice Ao23 t663.length co23)) (fun _ hk => trivial)⟩
       have n1_ : Aside0 (Kd.R k37 37 (w22.setCell ⟨gb667, 0, none⟩ (.slice Ao23 t663.length co23)) w.heap.size (fun _ => True) (.slice Ao23 t663.length co23) t663) := ⟨by (with_reducible repeat (first | apply Kd.R_alloc | apply Kd.R_drewN | apply Kd.R_drew)); exact Kd.R_mono (Kd.R_far (p := ⟨gb667, 0, none⟩) (Kd.R_types HO665.out BK667.out (by decide)) (fun _ hk => hk.2) (.slice Ao23 t663.length co23)) (fun _ hk => trivial)⟩
       have n2_ : Aside0 ((w22.setCell ⟨gb667, 0, none⟩ (.slice Ao23 t663.length co23)).heap[gb662]? = some (.cells #[.string t652, .int .i64 t653, .string t654, .int .i64 t655, .bool t656, .bool t657, .slice Ao20 t658.length co20] 26 (0, 0))) := ⟨by (with_reducible repeat (first | refine blk_drewN ?_ _ | refine blk_drew ?_ | refine blk_alloc ?_ _)); refine blk_far ?_ NB662_667.out _; (with_reducible repeat (first | refine blk_drewN ?_ _ | refine blk_drew ?_ | refine blk_alloc ?_ _)); exact BK662.out⟩
       have n3_ : Aside0 ((w22.setCell ⟨gb667, 0, none⟩ (.slice Ao23 t663.length co23)).heap[gb667]? = some (.cells #[.slice Ao23 t663.length co23] 31 (0, 0))) := ⟨by (with_reducible repeat (first | refine blk_drewN ?_ _ | refine blk_drew ?_ | refine blk_alloc ?_ _)); refine blk_put (cs := #[.slice none 0 0]) ?_ 0 _ rfl; (with_reducible repeat (first | refine blk_drewN ?_ _ | refine blk_drew ?_ | refine blk_alloc ?_ _)); exact BK667.out⟩
       have n4_ : Aside0 (Below w.heap.size w (w22.setCell ⟨gb667, 0, none⟩ (.slice Ao23 t663.length co23))) := ⟨by repeat (first | (with_reducible first | exact HB.out | apply below_alloc | apply pw_below_drewN | apply below_drew1 | refine below_set ?_ GE662.out | refine below_set ?_ GE667.out) | exact HB.out)⟩
       (try clear HO660)
       (try clear HO665)
       (try clear BK662)
       (try clear BK667)
       (try clear HB)
       generalize (w22.setCell ⟨gb667, 0, none⟩ (.slice Ao23 t663.length co23)) = w26 at n0_ n1_ n2_ n3_ n4_ ⊢
       have HO660 := n0_
       have HO665 := n1_
       have BK662 := n2_
       have BK667 := n3_
       have HB := n4_
       clear n0_ n1_ n2_ n3_ n4_
       have n0_ := Aside0.mk (Kd.R_drew HO660.out)
       have n1_ := Aside0.mk (Kd.R_drew HO665.out)
       have n2_ := Aside0.mk (blk_drew BK662.out)
       have n3_ := Aside0.mk (blk_drew BK667.out)
       have n4_ := Aside0.mk (below_drew1 HB.out)
       clear HO660
       clear HO665
       clear BK662
       clear BK667
       clear HB
       have HO660 := n0_
       have HO665 := n1_
       have BK662 := n2_
       have BK667 := n3_
       have HB := n4_
       clear n0_ n1_ n2_ n3_ n4_
       refine start_ (n := 13) (S := fun w' => w'.cell? ⟨gb662, 0, none⟩ = some (.string t652) ∧ w'.cell? ⟨gb662, 1, none⟩ = some (.int .i64 t653) ∧ w'.cell? ⟨gb662, 2, none⟩ = some (.string t654) ∧ w'.cell? ⟨gb662, 3, none⟩ = some (.int .i64 t655) ∧ w'.cell? ⟨gb662, 4, none⟩ = some (.bool t656) ∧ w'.cell? ⟨gb662, 5, none⟩ = some (.bool t657) ∧ w'.cell? ⟨gb662, 6, none⟩ = some (.slice Ao20 t658.length co20) ∧ w'.cell? ⟨gb667, 0, none⟩ = some (.slice Ao23 t663.length co23)) (ds := []) #[false, false, false, false, false, false, false, false, false, false, false, false, false] (by kernel_rfl) rfl rfl ⟨(blk_cell BK662.out 0).trans rfl, (blk_cell BK662.out 1).trans rfl, (blk_cell BK662.out 2).trans rfl, (blk_cell BK662.out 3).trans rfl, (blk_cell BK662.out 4).trans rfl, (blk_cell BK662.out 5).trans rfl, (blk_cell BK662.out 6).trans rfl, (blk_cell BK667.out 0).trans rfl⟩ (fun hHeld => ?_); refine with_tabW squelchlaw05_PathParses.tab11 squelchlaw05_PathParses.bits11 (fun HT_ HW_ => ?_)
       generalize w26.drew = w27 at HO660 HO665 BK662 BK667 HB hHeld ⊢
       refine take_ (i := 0) (N := some 43) (v := ?_) (a' := ?_) #[true, false, false, false, false, false, false, false, false, false, false, false, false] rfl rfl (take_ofW HT_.out HW_.out (by kernel_rfl)) (fun _ _ _ h => h) (Or.inl ⟨by rfl, ?_⟩) hHeld ?_ ?_
       rotate_left
       ·rintro w' ⟨s0, s1, s2, s3, s4, s5, s6, s7⟩
        go_simp
        with_reducible rfl
       rotate_left
       ·simp only [Act.put, List.setIfInBounds_toArray, List.set_cons_zero, List.set_cons_succ, i64_w, i32_w]
        rfl
       refine take_ (i := 2) (N := some 45) (v := ?_) (a' := ?_) #[true, false, true, false, false, false, false, false, false, false, false, false, false] rfl rfl (take_ofW HT_.out HW_.out (by kernel_rfl)) (fun _ _ _ h => h) (Or.inl ⟨by rfl, ?_⟩) hHeld ?_ ?_
       rotate_left
       ·rintro w' ⟨s0, s1, s2, s3, s4, s5, s6, s7⟩
        go_simp
        with_reducible rfl
       rotate_left
       ·simp only [Act.put, List.setIfInBounds_toArray, List.set_cons_zero, List.set_cons_succ, i64_w, i32_w]
        rfl
       refine one_ (i := 1) (N := some 44) #[true, true, true, false, false, false, false, false, false, false, false, false, false] rfl rfl (one_of HT_.out (by kernel_rfl)) (by decide) (fun K hK => ?_)
       refine goes_ Tryd.func17 (by kernel_rfl) rfl #[.agg #[.string t652, .int .i64 t653, .string t654, .int .i64 t655, .bool t656, .bool t657, .slice Ao20 t658.length co20]] (by rfl) rfl rfl (by (try simp only [List.map_toArray, List.map_cons, List.map_nil]); first | done | rfl | (simp only [List.length_drop, List.length_take]; rfl)) ?_
       with_reducible refine (squelchlaw05_Plain.calls k t652 t653 t654 t655 t656 t657 _ _ t658 t668 _ ?side1 ?side2 A10.out).mono ?_
       (case side1 => repeat (first | exact (Kd.R_reads' HO660.out).2.2 | (with_reducible refine Kd.C_alloc ?_ _) | (with_reducible refine Kd.C_drewN ?_ _) | (with_reducible refine Kd.C_drew ?_)))
       (case side2 => exact (Kd.R_reads' HO660.out).2.1)
       rintro e w28 ⟨v669, rfl, ho0, hb⟩
       refine ⟨_, rfl, ?_⟩
       have n0_ := Aside0.mk (Kd.R_below (by (with_reducible repeat (first | apply Kd.R_alloc | apply Kd.R_drewN | apply Kd.R_drew)); exact HO660.out) hb)
       have n1_ := Aside0.mk (Kd.R_elder' (by (with_reducible repeat (first | apply Kd.R_alloc | apply Kd.R_drewN | apply Kd.R_drew)); exact HO665.out) (Kd.R_base ho0) hb)
       have n2_ := Aside0.mk (Kd.R_lower (Kd.R_new' ho0 (Kd.R_lt (by (with_reducible repeat (first | apply Kd.R_alloc | apply Kd.R_drewN | apply Kd.R_drew)); exact HO665.out))) (below_size (by repeat (first | (with_reducible first | exact HB.out | apply below_alloc | apply pw_below_drewN | apply below_drew1 | refine below_set ?_ GE662.out | refine below_set ?_ GE667.out) | exact HB.out))))
       have n3_ := Aside0.mk (blk_below (g := gb662) (o := .cells #[.string t652, .int .i64 t653, .string t654, .int .i64 t655, .bool t656, .bool t657, .slice Ao20 t658.length co20] 26 (0, 0)) (by (with_reducible repeat (first | refine blk_drewN ?_ _ | refine blk_drew ?_ | refine blk_alloc ?_ _)); exact BK662.out) hb)
       have n4_ := Aside0.mk (blk_below (g := gb667) (o := .cells #[.slice Ao23 t663.length co23] 31 (0, 0)) (by (with_reducible repeat (first | refine blk_drewN ?_ _ | refine blk_drew ?_ | refine blk_alloc ?_ _)); exact BK667.out) hb)
       have n5_ := Aside0.mk (below_step (by repeat (first | (with_reducible first | exact HB.out | apply below_alloc | apply pw_below_drewN | apply below_drew1 | refine below_set ?_ GE662.out | refine below_set ?_ GE667.out) | exact HB.out)) hb)
       clear HO660
       clear HO665
       clear BK662
       clear BK667
       clear HB
       have HO660 := n0_
       have HO665 := n1_
       have HO670 := n2_
       have BK662 := n3_
       have BK667 := n4_
       have HB := n5_
       clear n0_ n1_ n2_ n3_ n4_ n5_
       (try clear hb)
       (try clear hb2)
       (try clear hk)
       (try clear hi)
       (try clear ho0)
       obtain ⟨Ao29, co29, eo29⟩ := Kd.R_slice HO670.out
       (first | subst eo29 | (injection eo29 with f1_ f2_ f3_; have f4_ := f1_.symm; have f5_ := f3_.symm; clear f1_ f2_ f3_; subst f4_; subst f5_))
       refine hK.out _ _ ⟨(blk_cell BK662.out 0).trans rfl, (blk_cell BK662.out 1).trans rfl, (blk_cell BK662.out 2).trans rfl, (blk_cell BK662.out 3).trans rfl, (blk_cell BK662.out 4).trans rfl, (blk_cell BK662.out 5).trans rfl, (blk_cell BK662.out 6).trans rfl, (blk_cell BK667.out 0).trans rfl⟩ (fun hHeld => ?_)
       clear hK K
       refine norm_ (a' := ?_) ?_ ?_
       rotate_left
       ·show Act.put _ (some 44) _ = _
        simp only [Act.put, List.setIfInBounds_toArray, List.set_cons_zero, List.set_cons_succ, i64_w, i32_w]
        rfl
       refine one_ (i := 3) (N := some 46) #[true, true, true, true, false, false, false, false, false, false, false, false, false] rfl rfl (one_of HT_.out (by kernel_rfl)) (by decide) (fun K hK => ?_)
       refine goes_ Tryd.func23 (by kernel_rfl) rfl #[.agg #[.slice Ao29 t668.length co29], .agg #[.slice Ao23 t663.length co23]] (by rfl) rfl rfl (by (try simp only [List.map_toArray, List.map_cons, List.map_nil]); first | done | rfl | (simp only [List.length_drop, List.length_take]; rfl)) ?_
       with_reducible refine (squelchref05_Same.calls k _ _ t668 _ _ t663 true _ ?side1 ?side2 ?side3 ?side4 A11.out).mono ?_
       (case side1 => repeat (first | exact (Kd.R_reads' HO670.out).2.2 | (with_reducible refine Kd.C_alloc ?_ _) | (with_reducible refine Kd.C_drewN ?_ _) | (with_reducible refine Kd.C_drew ?_)))
       (case side2 => exact (Kd.R_reads' HO670.out).2.1)
       (case side3 => repeat (first | exact (Kd.R_reads' HO665.out).2.2 | (with_reducible refine Kd.C_alloc ?_ _) | (with_reducible refine Kd.C_drewN ?_ _) | (with_reducible refine Kd.C_drew ?_)))
       (case side4 => exact (Kd.R_reads' HO665.out).2.1)
       rintro e w30 ⟨rfl, hb⟩
       refine ⟨_, rfl, ?_⟩
       have n0_ := Aside0.mk (Kd.R_below (by (with_reducible repeat (first | apply Kd.R_alloc | apply Kd.R_drewN | apply Kd.R_drew)); exact HO660.out) hb)
       have n1_ := Aside0.mk (Kd.R_below (by (with_reducible repeat (first | apply Kd.R_alloc | apply Kd.R_drewN | apply Kd.R_drew)); exact HO665.out) hb)
       have n2_ := Aside0.mk (Kd.R_below (by (with_reducible repeat (first | apply Kd.R_alloc | apply Kd.R_drewN | apply Kd.R_drew)); exact HO670.out) hb)
       have n3_ := Aside0.mk (blk_below (g := gb662) (o := .cells #[.string t652, .int .i64 t653, .string t654, .int .i64 t655, .bool t656, .bool t657, .slice Ao20 t658.length co20] 26 (0, 0)) (by (with_reducible repeat (first | refine blk_drewN ?_ _ | refine blk_drew ?_ | refine blk_alloc ?_ _)); exact BK662.out) hb)
       have n4_ := Aside0.mk (blk_below (g := gb667) (o := .cells #[.slice Ao23 t663.length co23] 31 (0, 0)) (by (with_reducible repeat (first | refine blk_drewN ?_ _ | refine blk_drew ?_ | refine blk_alloc ?_ _)); exact BK667.out) hb)
       have n5_ := Aside0.mk (below_step (by repeat (first | (with_reducible first | exact HB.out | apply below_alloc | apply pw_below_drewN | apply below_drew1 | refine below_set ?_ GE662.out | refine below_set ?_ GE667.out) | exact HB.out)) hb)
       clear HO660
       clear HO665
       clear HO670
       clear BK662
       clear BK667
       clear HB
       have HO660 := n0_
       have HO665 := n1_
       have HO670 := n2_
       have BK662 := n3_
       have BK667 := n4_
       have HB := n5_
       clear n0_ n1_ n2_ n3_ n4_ n5_
       (try clear hb)
       (try clear hb2)
       (try clear hk)
       (try clear hi)
       refine hK.out _ _ ⟨(blk_cell BK662.out 0).trans rfl, (blk_cell BK662.out 1).trans rfl, (blk_cell BK662.out 2).trans rfl, (blk_cell BK662.out 3).trans rfl, (blk_cell BK662.out 4).trans rfl, (blk_cell BK662.out 5).trans rfl, (blk_cell BK662.out 6).trans rfl, (blk_cell BK667.out 0).trans rfl⟩ (fun hHeld => ?_)
       clear hK K
       refine norm_ (a' := ?_) ?_ ?_
       rotate_left
       ·show Act.put _ (some 46) _ = _
        simp only [Act.put, List.setIfInBounds_toArray, List.set_cons_zero, List.set_cons_succ, i64_w, i32_w]
        rfl
       refine pure_ (i := 4) (N := some 47) (v := ?_) (a' := ?_) #[true, true, true, true, true, false, false, false, false, false, false, false, false] rfl rfl (any_of HT_.out (by kernel_rfl)) (fun _ _ _ h => h) (Or.inl ⟨by rfl, ?_⟩) ?_ ?_
       rotate_left
       ·intro w'
        go_simp
        with_reducible rfl
       rotate_left
       ·simp only [Act.put, List.setIfInBounds_toArray, List.set_cons_zero, List.set_cons_succ, i64_w, i32_w]
        rfl
       refine take_ (i := 5) (N := some 48) (v := ?_) (a' := ?_) #[true, true, true, true, true, true, false, false, false, false, false, false, false] rfl rfl (take_ofW HT_.out HW_.out (by kernel_rfl)) (fun _ _ _ h => h) (Or.inl ⟨by rfl, ?_⟩) hHeld ?_ ?_
       rotate_left
       ·rintro w' ⟨s0, s1, s2, s3, s4, s5, s6, s7⟩
        go_simp
        with_reducible rfl
       rotate_left
       ·simp only [Act.put, List.setIfInBounds_toArray, List.set_cons_zero, List.set_cons_succ, i64_w, i32_w]
        rfl
       refine one_ (i := 6) (N := some 49) #[true, true, true, true, true, true, true, false, false, false, false, false, false] rfl rfl (one_of HT_.out (by kernel_rfl)) (by decide) (fun K hK => ?_)
       refine goes_ Tryd.func28 (by kernel_rfl) rfl #[.agg #[.string t652, .int .i64 t653, .string t654, .int .i64 t655, .bool t656, .bool t657, .slice Ao20 t658.length co20]] (by rfl) rfl rfl (by (try simp only [List.map_toArray, List.map_cons, List.map_nil]); first | done | rfl | (simp only [List.length_drop, List.length_take]; rfl)) ?_
       with_reducible refine (path_Right.calls t652 t653 t654 t655 t656 t657 _ _ t658 true _ ?side1 ?side2 A13.out).mono ?_
       (case side1 => repeat (first | exact (Kd.R_reads' HO660.out).2.2 | (with_reducible refine Kd.C_alloc ?_ _) | (with_reducible refine Kd.C_drewN ?_ _) | (with_reducible refine Kd.C_drew ?_)))
       (case side2 => exact (Kd.R_reads' HO660.out).2.1)
       rintro e w31 ⟨rfl, hb⟩
       refine ⟨_, rfl, ?_⟩
       have n0_ := Aside0.mk (Kd.R_below (by (with_reducible repeat (first | apply Kd.R_alloc | apply Kd.R_drewN | apply Kd.R_drew)); exact HO660.out) hb)
       have n1_ := Aside0.mk (Kd.R_below (by (with_reducible repeat (first | apply Kd.R_alloc | apply Kd.R_drewN | apply Kd.R_drew)); exact HO665.out) hb)
       have n2_ := Aside0.mk (Kd.R_below (by (with_reducible repeat (first | apply Kd.R_alloc | apply Kd.R_drewN | apply Kd.R_drew)); exact HO670.out) hb)
       have n3_ := Aside0.mk (blk_below (g := gb662) (o := .cells #[.string t652, .int .i64 t653, .string t654, .int .i64 t655, .bool t656, .bool t657, .slice Ao20 t658.length co20] 26 (0, 0)) (by (with_reducible repeat (first | refine blk_drewN ?_ _ | refine blk_drew ?_ | refine blk_alloc ?_ _)); exact BK662.out) hb)
       have n4_ := Aside0.mk (blk_below (g := gb667) (o := .cells #[.slice Ao23 t663.length co23] 31 (0, 0)) (by (with_reducible repeat (first | refine blk_drewN ?_ _ | refine blk_drew ?_ | refine blk_alloc ?_ _)); exact BK667.out) hb)
       have n5_ := Aside0.mk (below_step (by repeat (first | (with_reducible first | exact HB.out | apply below_alloc | apply pw_below_drewN | apply below_drew1 | refine below_set ?_ GE662.out | refine below_set ?_ GE667.out) | exact HB.out)) hb)
       clear HO660
       clear HO665
       clear HO670
       clear BK662
       clear BK667
       clear HB
       have HO660 := n0_
       have HO665 := n1_
       have HO670 := n2_
       have BK662 := n3_
       have BK667 := n4_
       have HB := n5_
       clear n0_ n1_ n2_ n3_ n4_ n5_
       (try clear hb)
       (try clear hb2)
       (try clear hk)
       (try clear hi)
       refine hK.out _ _ ⟨(blk_cell BK662.out 0).trans rfl, (blk_cell BK662.out 1).trans rfl, (blk_cell BK662.out 2).trans rfl, (blk_cell BK662.out 3).trans rfl, (blk_cell BK662.out 4).trans rfl, (blk_cell BK662.out 5).trans rfl, (blk_cell BK662.out 6).trans rfl, (blk_cell BK667.out 0).trans rfl⟩ (fun hHeld => ?_)
       clear hK K
       refine norm_ (a' := ?_) ?_ ?_
       rotate_left
       ·show Act.put _ (some 49) _ = _
        simp only [Act.put, List.setIfInBounds_toArray, List.set_cons_zero, List.set_cons_succ, i64_w, i32_w]
        rfl
       refine pure_ (i := 7) (N := some 50) (v := ?_) (a' := ?_) #[true, true, true, true, true, true, true, true, false, false, false, false, false] rfl rfl (any_of HT_.out (by kernel_rfl)) (fun _ _ _ h => h) (Or.inl ⟨by rfl, ?_⟩) ?_ ?_
       rotate_left
       ·intro w'
        go_simp
        with_reducible rfl
       rotate_left
       ·simp only [Act.put, List.setIfInBounds_toArray, List.set_cons_zero, List.set_cons_succ, i64_w, i32_w]
        rfl
       refine pure_ (i := 8) (N := some 51) (v := ?_) (a' := ?_) #[true, true, true, true, true, true, true, true, true, false, false, false, false] rfl rfl (any_of HT_.out (by kernel_rfl)) (fun _ _ _ h => h) (Or.inl ⟨by rfl, ?_⟩) ?_ ?_
       rotate_left
       ·intro w'
        go_simp
        with_reducible rfl
       rotate_left
       ·simp only [Act.put, List.setIfInBounds_toArray, List.set_cons_zero, List.set_cons_succ, i64_w, i32_w]
        rfl
       refine take_ (i := 9) (N := some 52) (v := ?_) (a' := ?_) #[true, true, true, true, true, true, true, true, true, true, false, false, false] rfl rfl (take_ofW HT_.out HW_.out (by kernel_rfl)) (fun _ _ _ h => h) (Or.inl ⟨by rfl, ?_⟩) hHeld ?_ ?_
       rotate_left
       ·rintro w' ⟨s0, s1, s2, s3, s4, s5, s6, s7⟩
        go_simp
        with_reducible rfl
       rotate_left
       ·simp only [Act.put, List.setIfInBounds_toArray, List.set_cons_zero, List.set_cons_succ, i64_w, i32_w]
        rfl
       refine one_ (i := 10) (N := some 53) #[true, true, true, true, true, true, true, true, true, true, true, false, false] rfl rfl (one_of HT_.out (by kernel_rfl)) (by decide) (fun K hK => ?_)
       refine goes_ Tryd.func25 (by kernel_rfl) rfl #[.agg #[.string t652, .int .i64 t653, .string t654, .int .i64 t655, .bool t656, .bool t657, .slice Ao20 t658.length co20]] (by rfl) rfl rfl (by (try simp only [List.map_toArray, List.map_cons, List.map_nil]); first | done | rfl | (simp only [List.length_drop, List.length_take]; rfl)) ?_
       with_reducible refine (path_Command.calls t652 t653 t654 t655 t656 t657 _ _ t658 t673 _ ?side1 ?side2 A15.out).mono ?_
       (case side1 => repeat (first | exact (Kd.R_reads' HO660.out).2.2 | (with_reducible refine Kd.C_alloc ?_ _) | (with_reducible refine Kd.C_drewN ?_ _) | (with_reducible refine Kd.C_drew ?_)))
       (case side2 => exact (Kd.R_reads' HO660.out).2.1)
       rintro e w32 ⟨rfl, hb⟩
       refine ⟨_, rfl, ?_⟩
       have n0_ := Aside0.mk (Kd.R_below (by (with_reducible repeat (first | apply Kd.R_alloc | apply Kd.R_drewN | apply Kd.R_drew)); exact HO660.out) hb)
       have n1_ := Aside0.mk (Kd.R_below (by (with_reducible repeat (first | apply Kd.R_alloc | apply Kd.R_drewN | apply Kd.R_drew)); exact HO665.out) hb)
       have n2_ := Aside0.mk (Kd.R_below (by (with_reducible repeat (first | apply Kd.R_alloc | apply Kd.R_drewN | apply Kd.R_drew)); exact HO670.out) hb)
       have n3_ := Aside0.mk (blk_below (g := gb662) (o := .cells #[.string t652, .int .i64 t653, .string t654, .int .i64 t655, .bool t656, .bool t657, .slice Ao20 t658.length co20] 26 (0, 0)) (by (with_reducible repeat (first | refine blk_drewN ?_ _ | refine blk_drew ?_ | refine blk_alloc ?_ _)); exact BK662.out) hb)
       have n4_ := Aside0.mk (blk_below (g := gb667) (o := .cells #[.slice Ao23 t663.length co23] 31 (0, 0)) (by (with_reducible repeat (first | refine blk_drewN ?_ _ | refine blk_drew ?_ | refine blk_alloc ?_ _)); exact BK667.out) hb)
       have n5_ := Aside0.mk (below_step (by repeat (first | (with_reducible first | exact HB.out | apply below_alloc | apply pw_below_drewN | apply below_drew1 | refine below_set ?_ GE662.out | refine below_set ?_ GE667.out) | exact HB.out)) hb)
       clear HO660
       clear HO665
       clear HO670
       clear BK662
       clear BK667
       clear HB
       have HO660 := n0_
       have HO665 := n1_
       have HO670 := n2_
       have BK662 := n3_
       have BK667 := n4_
       have HB := n5_
       clear n0_ n1_ n2_ n3_ n4_ n5_
       (try clear hb)
       (try clear hb2)
       (try clear hk)
       (try clear hi)
       refine hK.out _ _ ⟨(blk_cell BK662.out 0).trans rfl, (blk_cell BK662.out 1).trans rfl, (blk_cell BK662.out 2).trans rfl, (blk_cell BK662.out 3).trans rfl, (blk_cell BK662.out 4).trans rfl, (blk_cell BK662.out 5).trans rfl, (blk_cell BK662.out 6).trans rfl, (blk_cell BK667.out 0).trans rfl⟩ (fun hHeld => ?_)
       clear hK K
       refine norm_ (a' := ?_) ?_ ?_
       rotate_left
       ·show Act.put _ (some 53) _ = _
        simp only [Act.put, List.setIfInBounds_toArray, List.set_cons_zero, List.set_cons_succ, i64_w, i32_w]
        rfl
       refine pure_ (i := 11) (N := some 54) (v := ?_) (a' := ?_) #[true, true, true, true, true, true, true, true, true, true, true, true, false] rfl rfl (any_of HT_.out (by kernel_rfl)) (fun _ _ _ h => h) (Or.inl ⟨by rfl, ?_⟩) ?_ ?_
       rotate_left
       ·intro w'
        go_simp
        with_reducible rfl
       rotate_left
       ·simp only [Act.put, List.setIfInBounds_toArray, List.set_cons_zero, List.set_cons_succ, i64_w, i32_w]
        rfl
       refine pure_ (i := 12) (N := some 2) (v := ?_) (a' := ?_) #[true, true, true, true, true, true, true, true, true, true, true, true, true] rfl rfl (any_of HT_.out (by kernel_rfl)) (fun _ _ _ h => h) (Or.inl ⟨by rfl, ?_⟩) ?_ ?_
       rotate_left
       ·intro w'
        go_simp
        with_reducible rfl
       rotate_left
       ·simp only [Act.put, List.setIfInBounds_toArray, List.set_cons_zero, List.set_cons_succ, i64_w, i32_w]
        rfl
       refine done_ (done_of HT_.out (by kernel_rfl)) ?_
       try go_wp2
       go_ret
       exact ⟨by first | rfl | (simp [errW_none, errW_some] <;> rfl) | (simp [*, errW_none, errW_some] <;> rfl), by repeat (first | (with_reducible first | exact HB.out | apply below_alloc | apply pw_below_drewN | apply below_drew1 | refine below_set ?_ GE662.out | refine below_set ?_ GE667.out) | exact HB.out)⟩
      ·replace c14 := Bool.eq_false_iff.mpr c14
       subst c14
       have H1 : (some false) = some r := by rw [if_neg (show ¬ (false = true) by decide)] at H; exact H
       clear H
       have H := H1
       clear H1
       exact absurd ((Option.some.inj H).trans HT_.out) (by decide)
     ·replace c12 := Bool.eq_false_iff.mpr c12
      subst c12
      have H1 : (some false) = some r := by rw [if_neg (show ¬ (false = true) by decide)] at H; exact H
      clear H
      have H := H1
      clear H1
      exact absurd ((Option.some.inj H).trans HT_.out) (by decide)
    ·rw [if_neg c9] at H
     have c9b0 : (t666 == 0) = false := beq_eq_false_iff_ne.mpr c9
     have c9b1 : (t666 != 0) = true := bne_iff_ne.mpr c9
     by_cases c33 : (t652.toList == ([] : List UInt8) && (t653 == 0)) = true
     ·rw [if_pos c33] at H
      have c33b0 : (t652.toList == ([] : List UInt8) && (t653 == 0)) = true := c33
      (try (have c33b0e : (t652.toList.isEmpty && (t653 == 0)) = true := by simpa using c33b0))
      (try (have c33b0e : (t652.toList.isEmpty && (t653 == 0)) = true := by simpa using c33b0))
      (try (have c33b1 : decide (t652.toList = ([] : List UInt8) && (t653 == 0)) = true := by simpa using c33))
      (try (have c33b2 : (t652.toList == ([] : List UInt8) && (t653 == 0)) = true := by simpa using c33))
      clear c33
      by_cases c34 : (t654.toList == ([] : List UInt8) && (t655 == 0)) = true
      ·rw [if_pos c34] at H
       have c34b0 : (t654.toList == ([] : List UInt8) && (t655 == 0)) = true := c34
       (try (have c34b0e : (t654.toList.isEmpty && (t655 == 0)) = true := by simpa using c34b0))
       (try (have c34b0e : (t654.toList.isEmpty && (t655 == 0)) = true := by simpa using c34b0))
       (try (have c34b1 : decide (t654.toList = ([] : List UInt8) && (t655 == 0)) = true := by simpa using c34))
       (try (have c34b2 : (t654.toList == ([] : List UInt8) && (t655 == 0)) = true := by simpa using c34))
       clear c34
       obtain rfl := Option.some.inj H
       go_enter Tryd.func13, Tryd.ntmps13
       go_wp2_with (first | ((with_reducible refine gate_callee (f := 15) rfl ?_); refine goesL_ (some 7) rfl rfl Tryd.func15 (by kernel_rfl) rfl #[] rfl (by (try simp only [List.map_toArray, List.map_cons, List.map_nil]); first | done | rfl | (simp only [List.length_drop, List.length_take]; rfl)) ?_; (with_reducible refine (squelchlaw05_awake.calls  true _ A2.out).mono ?_); rintro e w35 ⟨rfl, hb⟩; refine ⟨_, rfl, ?_⟩; have n0_ := Aside0.mk (below_step (by repeat (first | (with_reducible first | exact HB.out | apply below_alloc | apply pw_below_drewN | apply below_drew1) | exact HB.out)) hb); clear HB; have HB := n0_; clear n0_; (try clear hb); (try clear hb2); (try clear hk); (try clear hi)) | ((with_reducible refine gate_callee (f := 56) rfl ?_); refine goesL_ (some 14) rfl rfl Tryd.func56 (by kernel_rfl) rfl #[.string a0] rfl (by (try simp only [List.map_toArray, List.map_cons, List.map_nil]); first | done | rfl | (simp only [List.length_drop, List.length_take]; rfl)) ?_; (with_reducible refine (path_Parse.calls k a0 t652 t653 t654 t655 t656 t657 t658 t661 _ ?side1 A6.out).mono ?_); (case side1 => exact EnvW.below HE.out (by repeat (first | (with_reducible first | exact HB.out | apply below_alloc | apply pw_below_drewN | apply below_drew1) | exact HB.out))); rintro e w36 ⟨v659, rfl, ho0, hb⟩; refine ⟨_, rfl, ?_⟩; have n0_ := Aside0.mk (Kd.R_lower ho0 (below_size (by repeat (first | (with_reducible first | exact HB.out | apply below_alloc | apply pw_below_drewN | apply below_drew1) | exact HB.out)))); have n1_ := Aside0.mk (below_step (by repeat (first | (with_reducible first | exact HB.out | apply below_alloc | apply pw_below_drewN | apply below_drew1) | exact HB.out)) hb); clear HB; have HO660 := n0_; have HB := n1_; clear n0_ n1_; (try clear hb); (try clear hb2); (try clear hk); (try clear hi); (try clear ho0)) | ((with_reducible refine gate_dst (N := 3) rfl ?_); (try (refine gate_guard (by rfl) ?_; dsimp only)); refine box_event ?hg (N := 3) ?hd (cs := #[.string (⟨#[]⟩ : ByteArray), .int .i64 0, .string (⟨#[]⟩ : ByteArray), .int .i64 0, .bool false, .bool false, .slice none 0 0]) (t := 26) ?hr ?_; (case hd => rfl); (case hg => rfl); (case hr => first | (go_simp; done) | (go_simp; rfl)); intro gb662 hg w37 hbox hb; have n0_ := Aside0.mk (Kd.R_below (by (with_reducible repeat (first | apply Kd.R_alloc | apply Kd.R_drewN | apply Kd.R_drew)); exact HO660.out) hb); have n1_ := Aside0.mk (below_step (by repeat (first | (with_reducible first | exact HB.out | apply below_alloc | apply pw_below_drewN | apply below_drew1) | exact HB.out)) hb); have n2_ := Aside0.mk (hbox); have n3_ := Aside0.mk ((by rw [hg]; exact (below_size (by repeat (first | (with_reducible first | exact HB.out | apply below_alloc | apply pw_below_drewN | apply below_drew1) | exact HB.out))) : w.heap.size ≤ gb662)); have n4_ := Aside0.mk ((by rw [hg]; exact (below_size (by repeat (first | (with_reducible first | exact HB.out | apply below_alloc | apply pw_below_drewN | apply below_drew1) | exact HB.out))) : w.heap.size ≤ gb662)); clear HO660; clear HB; have HO660 := n0_; have HB := n1_; have BK662 := n2_; have GW662 := n3_; have GE662 := n4_; clear n0_ n1_ n2_ n3_ n4_; clear hb hbox hg; have hcz38_0 : w37.cell? ⟨gb662, 0, none⟩ = some (.string (⟨#[]⟩ : ByteArray)) := (blk_cell BK662.out 0).trans rfl; have hcz38_1 : w37.cell? ⟨gb662, 1, none⟩ = some (.int .i64 0) := (blk_cell BK662.out 1).trans rfl; have hcz38_2 : w37.cell? ⟨gb662, 2, none⟩ = some (.string (⟨#[]⟩ : ByteArray)) := (blk_cell BK662.out 2).trans rfl; have hcz38_3 : w37.cell? ⟨gb662, 3, none⟩ = some (.int .i64 0) := (blk_cell BK662.out 3).trans rfl; have hcz38_4 : w37.cell? ⟨gb662, 4, none⟩ = some (.bool false) := (blk_cell BK662.out 4).trans rfl; have hcz38_5 : w37.cell? ⟨gb662, 5, none⟩ = some (.bool false) := (blk_cell BK662.out 5).trans rfl; have hcz38_6 : w37.cell? ⟨gb662, 6, none⟩ = some (.slice none 0 0) := (blk_cell BK662.out 6).trans rfl; have hfz38_0 := blk_frozen BK662.out 0; have hfz38_1 := blk_frozen BK662.out 1; have hfz38_2 := blk_frozen BK662.out 2; have hfz38_3 := blk_frozen BK662.out 3; have hfz38_4 := blk_frozen BK662.out 4; have hfz38_5 := blk_frozen BK662.out 5; have hfz38_6 := blk_frozen BK662.out 6; obtain ⟨Ao39, co39, eo39⟩ := Kd.R_slice HO660.out; subst eo39) | ((with_reducible refine gate_callee (f := 57) rfl ?_); refine goesL_ (some 19) rfl rfl Tryd.func57 (by kernel_rfl) rfl #[.string a0] rfl (by (try simp only [List.map_toArray, List.map_cons, List.map_nil]); first | done | rfl | (simp only [List.length_drop, List.length_take]; rfl)) ?_; (with_reducible refine (squelchref05_Parse.calls k a0 t663 t666 _ A7.out).mono ?_); rintro e w40 ⟨v664, rfl, ho0, hb⟩; refine ⟨_, rfl, ?_⟩; have n0_ := Aside0.mk (Kd.R_below (by (with_reducible repeat (first | apply Kd.R_alloc | apply Kd.R_drewN | apply Kd.R_drew)); exact (Kd.R_mono (Kd.R_far (p := ⟨gb662, 6, none⟩) (Kd.R_far (p := ⟨gb662, 5, none⟩) (Kd.R_far (p := ⟨gb662, 4, none⟩) (Kd.R_far (p := ⟨gb662, 3, none⟩) (Kd.R_far (p := ⟨gb662, 2, none⟩) (Kd.R_far (p := ⟨gb662, 1, none⟩) (Kd.R_far (p := ⟨gb662, 0, none⟩) (Kd.R_types HO660.out BK662.out (by decide)) (fun _ hk => hk.2) (.string t652)) (fun _ hk => hk.2) (.int .i64 t653)) (fun _ hk => hk.2) (.string t654)) (fun _ hk => hk.2) (.int .i64 t655)) (fun _ hk => hk.2) (.bool t656)) (fun _ hk => hk.2) (.bool t657)) (fun _ hk => hk.2) (.slice Ao39 t658.length co39)) (fun _ h_ => h_.1))) hb); have n1_ := Aside0.mk (Kd.R_lower ho0 (below_size (by repeat (first | (with_reducible first | exact HB.out | apply below_alloc | apply pw_below_drewN | apply below_drew1 | refine below_set ?_ GE662.out) | exact HB.out)))); have n2_ := Aside0.mk (blk_below (g := gb662) (o := .cells #[.string t652, .int .i64 t653, .string t654, .int .i64 t655, .bool t656, .bool t657, .slice Ao39 t658.length co39] 26 (0, 0)) (by (with_reducible repeat (first | refine blk_drewN ?_ _ | refine blk_drew ?_ | refine blk_alloc ?_ _)); refine blk_put (cs := #[.string t652, .int .i64 t653, .string t654, .int .i64 t655, .bool t656, .bool t657, .slice none 0 0]) ?_ 6 _ rfl; (with_reducible repeat (first | refine blk_drewN ?_ _ | refine blk_drew ?_ | refine blk_alloc ?_ _)); refine blk_put (cs := #[.string t652, .int .i64 t653, .string t654, .int .i64 t655, .bool t656, .bool false, .slice none 0 0]) ?_ 5 _ rfl; (with_reducible repeat (first | refine blk_drewN ?_ _ | refine blk_drew ?_ | refine blk_alloc ?_ _)); refine blk_put (cs := #[.string t652, .int .i64 t653, .string t654, .int .i64 t655, .bool false, .bool false, .slice none 0 0]) ?_ 4 _ rfl; (with_reducible repeat (first | refine blk_drewN ?_ _ | refine blk_drew ?_ | refine blk_alloc ?_ _)); refine blk_put (cs := #[.string t652, .int .i64 t653, .string t654, .int .i64 0, .bool false, .bool false, .slice none 0 0]) ?_ 3 _ rfl; (with_reducible repeat (first | refine blk_drewN ?_ _ | refine blk_drew ?_ | refine blk_alloc ?_ _)); refine blk_put (cs := #[.string t652, .int .i64 t653, .string (⟨#[]⟩ : ByteArray), .int .i64 0, .bool false, .bool false, .slice none 0 0]) ?_ 2 _ rfl; (with_reducible repeat (first | refine blk_drewN ?_ _ | refine blk_drew ?_ | refine blk_alloc ?_ _)); refine blk_put (cs := #[.string t652, .int .i64 0, .string (⟨#[]⟩ : ByteArray), .int .i64 0, .bool false, .bool false, .slice none 0 0]) ?_ 1 _ rfl; (with_reducible repeat (first | refine blk_drewN ?_ _ | refine blk_drew ?_ | refine blk_alloc ?_ _)); refine blk_put (cs := #[.string (⟨#[]⟩ : ByteArray), .int .i64 0, .string (⟨#[]⟩ : ByteArray), .int .i64 0, .bool false, .bool false, .slice none 0 0]) ?_ 0 _ rfl; (with_reducible repeat (first | refine blk_drewN ?_ _ | refine blk_drew ?_ | refine blk_alloc ?_ _)); exact BK662.out) hb); have n3_ := Aside0.mk (below_step (by repeat (first | (with_reducible first | exact HB.out | apply below_alloc | apply pw_below_drewN | apply below_drew1 | refine below_set ?_ GE662.out) | exact HB.out)) hb); clear HO660; clear BK662; clear HB; have HO660 := n0_; have HO665 := n1_; have BK662 := n2_; have HB := n3_; clear n0_ n1_ n2_ n3_; (try clear hb); (try clear hb2); (try clear hk); (try clear hi); (try clear ho0)) | ((with_reducible refine gate_dst (N := 5) rfl ?_); (try (refine gate_guard (by rfl) ?_; dsimp only)); refine box_event ?hg (N := 5) ?hd (cs := #[.slice none 0 0]) (t := 31) ?hr ?_; (case hd => rfl); (case hg => rfl); (case hr => first | (go_simp; done) | (go_simp; rfl)); intro gb667 hg w41 hbox hb; have n0_ := Aside0.mk (Kd.R_below (by (with_reducible repeat (first | apply Kd.R_alloc | apply Kd.R_drewN | apply Kd.R_drew)); exact HO660.out) hb); have n1_ := Aside0.mk (Kd.R_below (by (with_reducible repeat (first | apply Kd.R_alloc | apply Kd.R_drewN | apply Kd.R_drew)); exact HO665.out) hb); have n2_ := Aside0.mk (blk_below (g := gb662) (o := .cells #[.string t652, .int .i64 t653, .string t654, .int .i64 t655, .bool t656, .bool t657, .slice Ao39 t658.length co39] 26 (0, 0)) (by (with_reducible repeat (first | refine blk_drewN ?_ _ | refine blk_drew ?_ | refine blk_alloc ?_ _)); exact BK662.out) hb); have n3_ := Aside0.mk (below_step (by repeat (first | (with_reducible first | exact HB.out | apply below_alloc | apply pw_below_drewN | apply below_drew1 | refine below_set ?_ GE662.out) | exact HB.out)) hb); have n4_ := Aside0.mk (hbox); have n5_ := Aside0.mk ((by rw [hg]; exact (below_size (by repeat (first | (with_reducible first | exact HB.out | apply below_alloc | apply pw_below_drewN | apply below_drew1 | refine below_set ?_ GE662.out) | exact HB.out))) : w.heap.size ≤ gb667)); have n6_ := Aside0.mk ((by rw [hg]; exact (below_size (by repeat (first | (with_reducible first | exact HB.out | apply below_alloc | apply pw_below_drewN | apply below_drew1 | refine below_set ?_ GE662.out) | exact HB.out))) : w.heap.size ≤ gb667)); have n7_ := Aside0.mk ((by rw [hg]; exact Nat.ne_of_lt (blk_lt (g := gb662) (o := .cells #[.string t652, .int .i64 t653, .string t654, .int .i64 t655, .bool t656, .bool t657, .slice Ao39 t658.length co39] 26 (0, 0)) (by (with_reducible repeat (first | refine blk_drewN ?_ _ | refine blk_drew ?_ | refine blk_alloc ?_ _)); exact BK662.out)) : gb662 ≠ gb667)); have n8_ := Aside0.mk ((by rw [hg]; exact Nat.ne_of_gt (blk_lt (g := gb662) (o := .cells #[.string t652, .int .i64 t653, .string t654, .int .i64 t655, .bool t656, .bool t657, .slice Ao39 t658.length co39] 26 (0, 0)) (by (with_reducible repeat (first | refine blk_drewN ?_ _ | refine blk_drew ?_ | refine blk_alloc ?_ _)); exact BK662.out)) : gb667 ≠ gb662)); clear HO660; clear HO665; clear BK662; clear HB; have HO660 := n0_; have HO665 := n1_; have BK662 := n2_; have HB := n3_; have BK667 := n4_; have GW667 := n5_; have GE667 := n6_; have NB662_667 := n7_; have NB667_662 := n8_; clear n0_ n1_ n2_ n3_ n4_ n5_ n6_ n7_ n8_; clear hb hbox hg; obtain ⟨Ao42, co42, eo42⟩ := Kd.R_slice HO665.out; subst eo42; have hnb43 := NB667_662.out; have hnc43 := NB662_667.out; have hcz44_0 : w41.cell? ⟨gb667, 0, none⟩ = some (.slice none 0 0) := (blk_cell BK667.out 0).trans rfl; have hfz44_0 := blk_frozen BK667.out 0; have hcz45_0 : w41.cell? ⟨gb662, 0, none⟩ = some (.string t652) := (blk_cell BK662.out 0).trans rfl; have hcz45_1 : w41.cell? ⟨gb662, 1, none⟩ = some (.int .i64 t653) := (blk_cell BK662.out 1).trans rfl; have hcz45_2 : w41.cell? ⟨gb662, 2, none⟩ = some (.string t654) := (blk_cell BK662.out 2).trans rfl; have hcz45_3 : w41.cell? ⟨gb662, 3, none⟩ = some (.int .i64 t655) := (blk_cell BK662.out 3).trans rfl; have hcz45_4 : w41.cell? ⟨gb662, 4, none⟩ = some (.bool t656) := (blk_cell BK662.out 4).trans rfl; have hcz45_5 : w41.cell? ⟨gb662, 5, none⟩ = some (.bool t657) := (blk_cell BK662.out 5).trans rfl; have hcz45_6 : w41.cell? ⟨gb662, 6, none⟩ = some (.slice Ao39 t658.length co39) := (blk_cell BK662.out 6).trans rfl; have hfz45_0 := blk_frozen BK662.out 0; have hfz45_1 := blk_frozen BK662.out 1; have hfz45_2 := blk_frozen BK662.out 2; have hfz45_3 := blk_frozen BK662.out 3; have hfz45_4 := blk_frozen BK662.out 4; have hfz45_5 := blk_frozen BK662.out 5; have hfz45_6 := blk_frozen BK662.out 6))
       go_ret
       exact ⟨by first | rfl | (simp [errW_none, errW_some] <;> rfl) | (simp [*, errW_none, errW_some] <;> rfl), by repeat (first | (with_reducible first | exact HB.out | apply below_alloc | apply pw_below_drewN | apply below_drew1 | refine below_set ?_ GE662.out | refine below_set ?_ GE667.out) | exact HB.out)⟩
      ·rw [if_neg c34] at H
       have c34b0 : (t654.toList == ([] : List UInt8) && (t655 == 0)) = false := by simpa using c34
       (try (have c34b0e : (t654.toList.isEmpty && (t655 == 0)) = false := by simpa using c34b0))
       (try (have c34b0e : (t654.toList.isEmpty && (t655 == 0)) = false := by simpa using c34b0))
       (try (have c34b1 : decide (t654.toList = ([] : List UInt8) && (t655 == 0)) = false := by simpa using c34))
       (try (have c34b2 : (t654.toList == ([] : List UInt8) && (t655 == 0)) = false := by simpa using c34))
       (try (have c34b3 : ¬ (t654.toList = ([] : List UInt8) && (t655 == 0)) := by simpa using c34))
       clear c34
       exact absurd ((Option.some.inj H).trans HT_.out) (by decide)
     ·rw [if_neg c33] at H
      have c33b0 : (t652.toList == ([] : List UInt8) && (t653 == 0)) = false := by simpa using c33
      (try (have c33b0e : (t652.toList.isEmpty && (t653 == 0)) = false := by simpa using c33b0))
      (try (have c33b0e : (t652.toList.isEmpty && (t653 == 0)) = false := by simpa using c33b0))
      (try (have c33b1 : decide (t652.toList = ([] : List UInt8) && (t653 == 0)) = false := by simpa using c33))
      (try (have c33b2 : (t652.toList == ([] : List UInt8) && (t653 == 0)) = false := by simpa using c33))
      (try (have c33b3 : ¬ (t652.toList = ([] : List UInt8) && (t653 == 0)) := by simpa using c33))
      clear c33
      exact absurd ((Option.some.inj H).trans HT_.out) (by decide)
   ·rw [if_neg c8] at H
    have c8b0 : (t661 == t666) = false := beq_eq_false_iff_ne.mpr c8
    have c8b1 : (t661 != t666) = true := bne_iff_ne.mpr c8
    exact absurd ((Option.some.inj H).trans HT_.out) (by decide)
 ·replace c3 := Bool.eq_false_iff.mpr c3
  subst c3
  have H1 : (some false) = some r := by rw [if_neg (show ¬ (false = true) by decide)] at H; exact H
  clear H
  have H := H1
  clear H1
  exact absurd ((Option.some.inj H).trans HT_.out) (by decide)

/-- THE ONE PURE STATEMENT of squelchlaw05_PathParses: yours. -/
def squelchlaw05_PathParses.Pure : Prop := ∀ (a0 : ByteArray), a0.size ≤ 140737488351232 → ∃ k, squelchlaw05_PathParses.f k a0 = some true
end Go.Proofs.YtpmieapgbdbabaaDoor.QAll
end

section
/- The plain law of PathParses: the path of any word is the one that the reference says, or none, told so; over plain strings and lists. -/
set_option linter.unusedVariables false
namespace Go.Proofs.YtpmieapgbdbabaaDoor.Pure
open Go.RowKit Go.Proofs.YtpmieapgbdbabaaDoor.QAll Go.Proofs.YtpmieapgbdbabaaDoorW.PrintWords Go.Proofs.YtpmieapgbdbabaaDoorW.PrintLast

/-- The reference's walk to the first '>'. -/
theorem ref_gt (s : ByteArray) (hs : s.size ≤ 1000000) (q : Nat) (hq : q ≤ s.size) (h1 : ∀ j : Nat, j < q → s.toList[j]? ≠ some 62) (h2 : q < s.size → s.toList[q]? = some 62) : ∀ (d i K : Nat), q - i ≤ d → d + 2 ≤ K → i ≤ q →
    ∃ K', K ≤ K' + d + 1 ∧ squelchref05_Parse.l0 K s (i : Int) = squelchref05_Parse.j1 K' s (q : Int)
  | d, i, 0, _, hk, _ => absurd hk (by omega)
  | d, i, K + 1, hd, hk, hi => by
    rw [squelchref05_Parse.l0]
    by_cases h : i < q
    · obtain ⟨d', rfl⟩ : ∃ d', d = d' + 1 := ⟨d - 1, by omega⟩
      obtain ⟨b, r, e1, e2, e3⟩ := bt_at s i (by omega)
      have hb : b ≠ 62 := by
        intro e
        subst e
        refine h1 i h ?_
        have : (s.toList.drop i)[0]? = some 62 := by rw [e1]; rfl
        simpa using this
      have hbn : ¬ ((b.toNat : Int) = 62) := fun e => hb (UInt8.toNat_inj.1 (by have : (62 : UInt8).toNat = 62 := rfl; omega))
      obtain ⟨K', g1, g2⟩ := ref_gt s hs q hq h1 h2 d' (i + 1) K (by omega) (by omega) (by omega)
      exact ⟨K', by omega, by rw [if_pos (by omega), if_pos (by omega), e3, if_neg hbn, wrap_succ i (by omega), g2]⟩
    · obtain rfl : i = q := by omega
      refine ⟨K, by omega, ?_⟩
      by_cases hl : i < s.size
      · obtain ⟨b, r, e1, e2, e3⟩ := bt_at s i hl
        have hb : b = 62 := by
          have g := h2 hl
          have : (s.toList.drop i)[0]? = some b := by rw [e1]; rfl
          simp only [List.getElem?_drop, Nat.add_zero] at this
          rw [g] at this
          exact (Option.some.inj this).symm
        rw [if_pos (by omega), if_pos (by omega), e3, hb, if_pos (by decide)]
      · rw [if_neg (by omega)]
theorem dgF_err : ∀ (l : List ByteArray) (i : Nat) (out : List S93) (st last : Int), (dgF l i out st last).2.2.2 = 0 ∨ (dgF l i out st last).2.2.2 = 11 ∨ (dgF l i out st last).2.2.2 = 12
  | [], _, _, _, _ => Or.inl rfl
  | w :: r, i, out, st, last => by
    rw [dgF]
    split
    · exact Or.inr (Or.inl rfl)
    · split
      · exact dgF_err r _ _ _ _
      · rename_i h
        exact Or.inr (Or.inr ((parse_err _).resolve_left h))
theorem right_size {s : ByteArray} {n : Int} (h : rightB s n = true) : s.size ≤ 6 := by
  unfold rightB at h
  have hl : 1 ≤ s.size ∧ s.size ≤ 6 ∧ 0 ≤ n ∧ n ≤ 15 := by simpa using (by simpa using h : _ ∧ _).2
  exact hl.2.1
theorem sizes_of_right {a b : ByteArray} {n m : Int} {D : List S93} (h : pathB a n b m D = true) (hl : D.length ≤ 8) : sizesOk a b D = true := by
  unfold pathB at h
  simp only [Bool.and_eq_true, List.all_eq_true] at h
  have h1 := right_size h.1
  have h2 := right_size h.2.1
  unfold sizesOk
  simp only [Bool.and_eq_true, decide_eq_true_eq, List.all_eq_true]
  exact ⟨by omega, by omega, fun d hd => by have := right_size (h.2.2.1 d hd); omega, by omega⟩
def none8 (e : Int) : ByteArray × Int × ByteArray × Int × Bool × Bool × List S93 × Int := (⟨#[]⟩, 0, ⟨#[]⟩, 0, false, false, [], e)
theorem parse_both (s : ByteArray) (hs : s.size ≤ 1000) (K : Nat) (hK : 30000 ≤ K) :
    (∃ e : Int, (e = 2 ∨ e = 11 ∨ e = 12) ∧ path_Parse.f K s = some (none8 e) ∧ squelchref05_Parse.f K s = some ([], e)) ∨
    (∃ (a : ByteArray) (n : Int) (b : ByteArray) (m : Int) (D : List S93), path_Parse.f K s = some (a, n, b, m, true, false, D, 0) ∧ squelchref05_Parse.f K s = some ((⟨⟨a, n⟩, true⟩ : S37) :: (⟨⟨b, m⟩, false⟩ : S37) :: D.map mk37, 0) ∧
      pathB a n b m D = true ∧ D.length ≤ 8) := by
  unfold path_Parse.f strings_Cut.f
  have h62 : (⟨#[62]⟩ : ByteArray).size = 1 := rfl
  have ho : oneB ⟨#[62]⟩ = 62 := rfl
  rw [if_pos (⟨h62, by omega⟩ : _ ∧ _)]
  simp only [Option.bind_some, ho]
  unfold squelchref05_Parse.f
  by_cases hhas : 0 ≤ Lib.indexByte s.toList 62
  · obtain ⟨q, hq⟩ := Int.eq_ofNat_of_zero_le hhas
    have hlt : q < s.size := by rw [← len_eq]; exact indexByte_lt _ _ _ hq
    obtain ⟨g1, g2⟩ := Lib.indexByte_some hq
    have hH : cutHas s 62 = true := by unfold cutHas; rw [← Go.ByteArray.toList_eq]; exact decide_eq_true hhas
    have hI : idxOf s 62 = q := by unfold idxOf; rw [← Go.ByteArray.toList_eq, hq]; rfl
    have hA : cutA s 62 = s.extract 0 q := by unfold cutA; rw [if_pos hH, hI]
    have hB : cutB s 62 = s.extract (q + 1) s.size := by unfold cutB; rw [if_pos hH, hI]
    obtain ⟨K', k1, k2⟩ := ref_gt s (by omega) q (by omega) g2 (fun _ => g1) q 0 K (by omega) (by omega) (by omega)
    rw [show ((0 : Nat) : Int) = 0 from rfl] at k2
    obtain ⟨K1, rfl⟩ : ∃ K1, K' = K1 + 1 := ⟨K' - 1, by omega⟩
    rw [k2, squelchref05_Parse.j1, if_pos hH, hA, hB, if_neg (show ¬ (q : Int) = (s.size : Int) by omega), wrap_succ q (by omega), if_pos (show 0 ≤ ((q + 1 : Nat) : Int) by omega), if_pos (show ((q + 1 : Nat) : Int) ≤ (s.size : Int) by omega), Int.toNat_natCast]
    have hBs : (s.extract (q + 1) s.size).size ≤ s.size := by rw [ByteArray.size_extract]; omega
    have hAs : (s.extract 0 q).size ≤ s.size := by rw [ByteArray.size_extract]; omega
    have hsp := ref_split (s.extract (q + 1) s.size) (by omega) 44 K1 (by omega)
    rw [show (((44 : UInt8).toNat : Nat) : Int) = 44 by decide] at hsp
    rw [hsp]
    unfold strings_Split.f
    rw [if_pos (⟨by decide, by omega⟩ : _ ∧ _)]
    simp only [Option.bind_some]
    obtain ⟨s1, s2, s3⟩ := split_sizes (s.extract (q + 1) s.size) 44
    obtain ⟨W, hW⟩ : ∃ W, W = splitS (s.extract (q + 1) s.size) ⟨#[44]⟩ := ⟨_, rfl⟩
    rw [← hW] at s1 s2 s3 ⊢
    have hWl : 1 ≤ W.length := by
      cases W with
      | nil => exact absurd rfl s1
      | cons x y => simp
    have hmem0 : rdOf ByteArray.empty W ((0 : Nat) : Int) ∈ W := by
      have := rdOf_at W 0 (by omega)
      rw [List.drop_zero] at this
      have h2 : rdOf ByteArray.empty W ((0 : Nat) : Int) ∈ rdOf ByteArray.empty W ((0 : Nat) : Int) :: W.drop (0 + 1) := by simp
      rw [← this] at h2
      exact h2
    have hw0 := s3 _ hmem0
    rw [show ((0 : Nat) : Int) = 0 from rfl] at hw0
    unfold call_Parse.f
    rw [if_pos (show (s.extract 0 q).size ≤ 281474976710656 by omega), if_pos (show 0 ≤ (q : Int) by omega), if_pos (show (q : Int) ≤ (s.size : Int) by omega), Int.toNat_natCast, ref_parse (s.extract 0 q) (by omega) K1 (by omega)]
    simp only [Option.bind_some]
    rw [if_pos (show 0 < (W.length : Int) by omega), if_pos (show 0 < (W.length : Int) by omega), if_pos (show (rdOf ByteArray.empty W 0).size ≤ 281474976710656 by omega), ref_parse (rdOf ByteArray.empty W 0) (by omega) K1 (by omega)]
    simp only [Option.bind_some]
    have HA := Aside0.mk hAs
    obtain ⟨K2, rfl⟩ : ∃ K2, K1 = K2 + 1 := ⟨K1 - 1, by omega⟩
    by_cases ha : (parseS (s.extract 0 q)).2.2 = 0
    · rw [if_pos ha, if_pos (show ((parseS (s.extract 0 q)).2.2 == 0) = true by rw [ha]; rfl), squelchref05_Parse.j2]
      by_cases hb : (parseS (rdOf ByteArray.empty W 0)).2.2 = 0
      · rw [if_pos hb, if_neg (show ¬ (!((parseS (rdOf ByteArray.empty W 0)).2.2 == 0)) = true by rw [hb]; decide), if_pos (show 1 ≤ (W.length : Int) by omega)]
        have ra := Aside0.mk (parse_right _ ha)
        have rb := Aside0.mk (parse_right _ hb)
        clear ha hb
        have hdrop : W.drop 1 = W.drop (0 + 1) := rfl
        have d1 : (W.drop 1).length ≤ 1000000 := by rw [List.length_drop]; omega
        have d2 : ∀ x ∈ W.drop 1, x.size ≤ 1000000 := fun x hx => by have := s3 x (List.mem_of_mem_drop hx); omega
        have d3 : (W.drop 1).length + 12 ≤ K := by rw [List.length_drop]; omega
        rw [digis_f (W.drop 1) d1 d2 K d3]
        have hr := ref_digis (⟨⟨(parseS (rdOf ByteArray.empty W 0)).1, (parseS (rdOf ByteArray.empty W 0)).2.1⟩, true⟩ : S37) (⟨⟨(parseS (s.extract 0 q)).1, (parseS (s.extract 0 q)).2.1⟩, false⟩ : S37) W 1000 (by omega) (by omega) (fun x hx => by have := s3 x hx; omega) 1000 0 K2 [] 0 (-1) (by omega) (by omega) (by omega) rfl (by omega) (by omega) (by omega) (by omega) (by omega)
        rw [show ((0 + 1 : Nat) : Int) = 1 from rfl, show marked ((-1 : Int) + 1).toNat ([] : List S93) = [] from rfl, List.map_nil] at hr
        rw [hr]
        simp only [Option.bind_some]
        have hg := dgF_right (W.drop 1) 0 [] 0 (-1) rfl (by omega) (fun d hd => by cases hd) (by omega) (by omega)
        have hee : (dgF (W.drop 1) 0 [] 0 (-1)).2.2.2 = 0 ∨ (dgF (W.drop 1) 0 [] 0 (-1)).2.2.2 = 11 ∨ (dgF (W.drop 1) 0 [] 0 (-1)).2.2.2 = 12 := dgF_err _ _ _ _ _
        rw [← hdrop]
        obtain ⟨x, hx⟩ : ∃ x, x = dgF (W.drop 1) 0 [] 0 (-1) := ⟨_, rfl⟩
        rw [← hx] at hg hee ⊢
        clear hr hx d1 d2 d3 hdrop
        unfold digisEnd refEnd
        by_cases he : x.2.2.2 = 0
        · obtain ⟨q1, q2, q3⟩ := hg he
          rw [if_pos he, if_pos he, if_pos (by trivial)]
          by_cases hst : x.2.1 > 1
          · rw [if_pos hst, if_pos hst]
            exact Or.inl ⟨2, Or.inl rfl, rfl, rfl⟩
          · rw [if_neg hst, if_neg hst]
            refine Or.inr ⟨_, _, _, _, _, rfl, rfl, ?_, by rw [marked_len]; exact q2⟩
            unfold pathB ordB
            rw [rb.out, ra.out, marked_right _ _ (fun d hd => (q1 d hd).1), ord_marked _ _ (fun d hd => (q1 d hd).2), marked_len, decide_eq_true q2]
            rfl
        · rw [if_neg he, if_neg he, if_neg he]
          rcases hee with h | h | h
          · exact absurd h he
          · exact Or.inl ⟨11, Or.inr (Or.inl rfl), by rw [h]; rfl, by rw [h]⟩
          · exact Or.inl ⟨12, Or.inr (Or.inr rfl), by rw [h]; rfl, by rw [h]⟩
      · have h12 : (parseS (rdOf ByteArray.empty W 0)).2.2 = 12 := (parse_err _).resolve_left hb
        rw [if_neg hb, if_pos (show (!((parseS (rdOf ByteArray.empty W 0)).2.2 == 0)) = true by rw [h12]; decide), h12]
        exact Or.inl ⟨12, Or.inr (Or.inr rfl), rfl, rfl⟩
    · have h12 : (parseS (s.extract 0 q)).2.2 = 12 := (parse_err _).resolve_left ha
      rw [if_neg ha, if_neg (show ¬ ((parseS (s.extract 0 q)).2.2 == 0) = true by rw [h12]; decide), squelchref05_Parse.j2, if_pos (by trivial), h12]
      exact Or.inl ⟨12, Or.inr (Or.inr rfl), rfl, rfl⟩
  · have hm1 : Lib.indexByte s.toList 62 = -1 := by have := Lib.indexByte_ge s.toList 62; omega
    have hno := Lib.indexByte_none hm1
    have hH : cutHas s 62 = false := by unfold cutHas; rw [← Go.ByteArray.toList_eq]; exact decide_eq_false hhas
    obtain ⟨K', k1, k2⟩ := ref_gt s (by omega) s.size (by omega) (fun j _ => hno j) (fun h => absurd h (by omega)) s.size 0 K (by omega) (by omega) (by omega)
    rw [show ((0 : Nat) : Int) = 0 from rfl] at k2
    obtain ⟨K1, rfl⟩ : ∃ K1, K' = K1 + 1 := ⟨K' - 1, by omega⟩
    rw [k2, squelchref05_Parse.j1, hH, if_neg (by decide), if_pos (show (s.size : Int) = (s.size : Int) from rfl)]
    exact Or.inl ⟨2, Or.inl rfl, rfl, rfl⟩
theorem PathParses : squelchlaw05_PathParses.Pure := by
  intro s _
  refine ⟨40000, ?_⟩
  unfold squelchlaw05_PathParses.f
  rw [show squelchlaw05_awake.f = some true from rfl]
  simp only [Option.bind_some]
  rw [if_pos (by trivial)]
  by_cases hs : (s.size : Int) > 300
  · rw [if_pos hs]
  · rw [if_neg hs]
    rcases parse_both s (by omega) 40000 (by omega) with ⟨e, he, h1, h2⟩ | ⟨a, n, b, m, D, h1, h2, h3, h4⟩
    · rw [h1, h2]
      simp only [Option.bind_some, none8]
      have hne : ¬ e = 0 := by omega
      have he0 : (⟨#[]⟩ : ByteArray).toList = [] := by rw [Go.ByteArray.toList_eq]
      rw [if_pos (by trivial), if_neg hne, he0, if_pos (by rfl), if_pos (by rfl)]
      rfl
    · rw [h1, h2]
      simp only [Option.bind_some]
      rw [if_pos (by trivial), if_pos (by trivial), plain_f _ _ _ _ _ _ D (by omega) 40000 (by omega)]
      simp only [Option.bind_some]
      rw [same_f _ (by simp; omega) 40000 (by simp; omega)]
      simp only [Option.bind_some]
      rw [if_pos (by trivial)]
      unfold path_Right.f
      rw [if_pos (sizes_of_right h3 h4), h3]
      rfl
end Go.Proofs.YtpmieapgbdbabaaDoor.Pure
end

section
/- The statement that the law squelchlaw05.PathParses is true of every input, its arguments left as they were: the row, out of its walk and its plain law. Written by a program of this session (wip/pp/row.py). -/
namespace Go.Proofs.YtpmieapgbdbabaaDoor.pathParsesRow
open Go.ChangeShapes Go.WideShapes Go.ChangeAt Go.RowKit
open Go.ChangeMaps (open_string shut_string)
set_option linter.unusedVariables false
set_option linter.unusedSimpArgs false
theorem own : ownKnob Tryd.prog.godebug = none := by kernel_rfl
theorem laidOut : laidOutB Tryd.prog = true := by kernel_rfl
theorem met (os : Os) (args : Array Value) : laidMetH Tryd.prog Rows.pathParsesRow.laid ((World.laidAll Tryd.prog os Rows.pathParsesRow.laid).forCall (fun _ _ => 0) ⟨#[], args, []⟩).memory :=
  (show laidMet Tryd.prog Rows.pathParsesRow.laid _ from laidMet_laidAll _ (by kernel_rfl) (by kernel_rfl))
set_option maxRecDepth 100000 in
theorem lifted (os : Os) (started : os.Started) (H : Type) (enc : TypeId × Value → H) :
    ReturnsInHanded {} Tryd.checked os 13 .any (fun w args => (Rows.pathParsesSpec.pre enc Tryd.prog Tryd.f13 Rows.pathParsesRow.domain false w args ∧ laidMetH Tryd.prog Rows.pathParsesRow.laid w) ∧ sizedMet enc Tryd.prog Tryd.f13 (OpenSpec.ofChange Rows.pathParsesSpec) false w args) (Rows.pathParsesSpec.post enc Tryd.prog Tryd.f13 false true false false) := by
  refine QAll.returns_laid_shaped (C := Tryd.checked) own started (by kernel_rfl) Tryd.func13
    (ChangeSpec.witness_at (enc := enc) (C := Tryd.checked) (os := os) (X := fun w _ => laidMetH Tryd.prog Rows.pathParsesRow.laid w) false (World.laidAll Tryd.prog os Rows.pathParsesRow.laid) #[.string ByteArray.empty] 8 (World.laidAll_os _ _ _) (by kernel_rfl) (by kernel_rfl) (by kernel_rfl) (by kernel_rfl) (by kernel_rfl) (met os _)) ?_
  intro W base args ds gs before hval0 hW hcnd hsz0 hL hsh
  have hE : QAll.EnvW W := QAll.env_of_laid hsh (show laidMet Tryd.prog Rows.pathParsesRow.laid W from hL) (by simp [Rows.pathParsesRow]) (by simp [Rows.pathParsesRow]) (by simp [Rows.pathParsesRow])
  have hsz : (DataW.weightsEach Tryd.prog (Tryd.f13.params.toList ++ Rows.pathParsesSpec.plain.varTypes Tryd.prog) (ds ++ gs)).all (· ≤ reachBytes) = true := hsz0
  have hval : ∀ (j : Nat) t v, Tryd.f13.params[j]? = some t → args[j]? = some v → Value.okWide Tryd.prog W .any base t v := hval0
  have hW' := hW
  obtain ⟨p, q, hA0, hV, rfl, hfz, hnd⟩ := hW
  have hA : DataW.TrodAll enc Tryd.prog W 0 (fun _ => true) true Tryd.f13.params.toList args.toList ds p := hA0
  rw [Tryd.params13] at hA hval hsz
  obtain ⟨v0, vs0, d0, ds0, p0, q0, hargs, rfl, rfl, h0, r0⟩ := trodAll_cons hA
  obtain ⟨rfl, rfl, rfl⟩ := trodAll_nil r0
  obtain rfl : args = #[v0] := by cases args; simp_all
  obtain ⟨rfl, rfl⟩ := trodVars_none hV
  have k0 := h0
  have lt0 : ∀ x ∈ p0, x.block < W.heap.size := by obtain ⟨m, hm⟩ := k0; exact DataW.trod_lt m _ _ _ hm
  obtain ⟨a0, rfl, rfl, rfl, ma0⟩ := open_string Tryd.underlying9 (hval 0 9 v0 rfl rfl) h0
  have hz : a0.size ≤ 140737488351232 := by
    have z := hsz
    skip
    simp [DataW.weightsEach, DataW.weights, reachBytes, Tryd.underlying9] at z
    first | omega | exact of_decide_eq_true z
  have za0 := hz
  clear hA0 hval0 hsz0 hsz
  obtain ⟨k, hp⟩ := Pure.PathParses a0 za0
  refine (QAll.squelchlaw05_PathParses.calls k a0 true W hE rfl hp).mono fun e W' ⟨he, bel⟩ => ?_
  subst he
  exact ⟨_, rfl, _, _, _, [], _, [], hW', trodAll_mk1 (shut_bool Tryd.underlying4 _), (trodAll_cons_mk (Below.trod laidOut (by kernel_rfl) (of_decide_eq_true (by kernel_rfl)) k0 bel lt0) trodAll_mk0), rfl, bel.frame _, fun h => by cases h⟩
theorem over : Rows.pathParsesRow.holds Tryd.pinned (OpenSpec.ofChange Rows.pathParsesSpec) :=
  OpenClaim.holds_of_wide 13 Tryd.f13 rfl rfl rfl rfl rfl rfl rfl ⟨rfl, rfl, rfl, rfl, rfl⟩ rfl rfl rfl rfl rfl (by kernel_rfl) Tryd.func13 (by kernel_rfl)
    (of_decide_eq_true (by kernel_rfl)) (by unfold Func.isWrapper; first | (rw [if_pos (by decide +kernel)]; kernel_rfl) | (rw [if_neg (by decide +kernel)]; exact ⟨rfl, rfl⟩))
    (fun os started H enc _ => lifted os started H enc)
theorem card : Rows.PathParsesCardSaid :=
  Claim7.holds_tied_plain_at .later [] [.data, .data, .data, .data, .sentinel, .sentinel, .pinned] true (true, "b63f2f92baa42f5091e235388c6ae0d54991875acb84ccae606eb7f7e9e6d94e") true
    over (fun _ h => by cases h) (by kernel_rfl) (fun _ h => by cases h) pathParses_row_tie rfl ⟨rfl, rfl⟩ (by kernel_rfl) rfl
    (fun f fn hf hfn => by
      obtain rfl : f = 13 := Option.some.inj ((show Tryd.prog.funcNamed "squelch/squelchlaw05.PathParses" = some 13 by kernel_rfl).symm.trans hf) |>.symm
      obtain rfl : fn = Tryd.f13 := (Option.some.inj (Tryd.func13.symm.trans hfn)).symm
      exact ⟨by kernel_rfl, fun j t ht => by
        rw [Tryd.params13] at ht
        have hm := Array.mem_of_getElem? ht
        simp at hm
        rcases hm with rfl
        · exact (show Tryd.prog.wantsStandIn 9 = false by kernel_rfl)
      ⟩)
    (by kernel_rfl)
end Go.Proofs.YtpmieapgbdbabaaDoor.pathParsesRow
namespace Go.Proofs.YtpmieapgbdbabaaDoor
theorem pathParses_holds : Rows.PathParsesCardSaid := pathParsesRow.card
#print axioms pathParses_holds
end Go.Proofs.YtpmieapgbdbabaaDoor
end
