/- Words, walks and plain laws that the row of the law PathGoes rests on. -/
import Derived.Test.YtpmieapgbdbabaaDoorMPathGoes0
import Derived.Test.YtpmieapgbdbabaaDoorMPathGoes1
import Derived.Deep.CutBlock
import Derived.Deep.RegionWith
import Derived.RangeFuncNested
import Derived.RangeFuncBound
import Derived.RangeFuncCalls
import Derived.RangeFuncLeaves
import Derived.Shelf.Abstract
import Derived.WalkKit
import Derived.OwnWalkIn
import Derived.TacticsInMore
import Derived.LoopNIn
import Derived.LoopIn
import Derived.RegionTactic
import Derived.WalkSpells
import Derived.ScopeJumps
import Derived.Laws.DeepStrings4
import Derived.RangeFuncWrites
import Derived.RangeFuncFrom
import Derived.Maps.AppendAt
import Derived.Maps.OwnIn
import Derived.Lib.IndexLaws
import Derived.KernelRfl
import Derived.Test.YtpmieapgbdbabaaDoorRows
import Derived.Lib.LaidU8
import Derived.Lay
import Derived.Handed
import Derived.SizedLaws
import Derived.LaidLaws
import Derived.Shelf.Vars
import Derived.LaidHandle
import Derived.Stop.Joined
import Derived.Deep.Slices
import Derived.Deep.Fields
import Derived.ChangeSame
section
/- Walks, written by a program of this session (wip/pp): a Go function comes to what the Lean function beside it tells. -/
namespace Go.Proofs.YtpmieapgbdbabaaDoor.QAll
open Go.RowKit Go.Proofs.YtpmieapgbdbabaaDoorW.PrintWords Go.Proofs.YtpmieapgbdbabaaDoorW.PrintLast Go.Proofs.YtpmieapgbdbabaaDoorW.PrintMore
attribute [local go_sem] max2_int min2_int max_two min_two max_three min_three max_four min_four
set_option linter.unusedVariables false
set_option linter.unusedSimpArgs false

def call_Text.f (a0_0 : ByteArray) (a0_1 : Int) : Option (ByteArray) := (call_Right.f a0_0 a0_1).bind fun t146 => (if t146 = true then (if a0_1 = 0 then (some a0_0) else (if a0_0.size + 1 ≤ 9223372036854775807 then ((strconv_Itoa_69.f a0_1).bind fun t147 => (if (a0_0 ++ (⟨#[45]⟩ : ByteArray)).size + t147.size ≤ 9223372036854775807 then (some ((a0_0 ++ (⟨#[45]⟩ : ByteArray)) ++ t147)) else (none))) else (none))) else (some (⟨#[]⟩ : ByteArray)))
set_option maxHeartbeats 8000000 in
set_option maxRecDepth 100000 in
theorem call_Text.calls (a0_0 : ByteArray) (a0_1 : Int) (r : ByteArray) (w : World) (h : call_Text.f a0_0 a0_1 = some r) :
  Calls Tryd.prog 41 #[.agg #[.string a0_0, .int .i64 a0_1]] w fun e w' => e = .returned (.string r) ∧ Below w.heap.size w w' := by
 have hu23 := Tryd.underlying23
 have HB := Aside0.mk (Below.refl w.heap.size w)
 have H : ((call_Right.f a0_0 a0_1).bind fun t146 => (if t146 = true then (if a0_1 = 0 then (some a0_0) else (if a0_0.size + 1 ≤ 9223372036854775807 then ((strconv_Itoa_69.f a0_1).bind fun t147 => (if (a0_0 ++ (⟨#[45]⟩ : ByteArray)).size + t147.size ≤ 9223372036854775807 then (some ((a0_0 ++ (⟨#[45]⟩ : ByteArray)) ++ t147)) else (none))) else (none))) else (some (⟨#[]⟩ : ByteArray)))) = some r := h
 clear h
 replace H := Option.bind_eq_some_iff.mp H
 obtain ⟨t146, A20, H⟩ := H
 replace H : (if t146 = true then (if a0_1 = 0 then (some a0_0) else (if a0_0.size + 1 ≤ 9223372036854775807 then ((strconv_Itoa_69.f a0_1).bind fun t147 => (if (a0_0 ++ (⟨#[45]⟩ : ByteArray)).size + t147.size ≤ 9223372036854775807 then (some ((a0_0 ++ (⟨#[45]⟩ : ByteArray)) ++ t147)) else (none))) else (none))) else (some (⟨#[]⟩ : ByteArray))) = some r := H
 have A2 := Aside0.mk A20
 clear A20
 by_cases c3 : t146 = true
 ·subst c3
  have H1 : (if a0_1 = 0 then (some a0_0) else (if a0_0.size + 1 ≤ 9223372036854775807 then ((strconv_Itoa_69.f a0_1).bind fun t147 => (if (a0_0 ++ (⟨#[45]⟩ : ByteArray)).size + t147.size ≤ 9223372036854775807 then (some ((a0_0 ++ (⟨#[45]⟩ : ByteArray)) ++ t147)) else (none))) else (none))) = some r := by rw [if_pos rfl] at H; exact H
  clear H
  have H := H1
  clear H1
  by_cases c4 : a0_1 = 0
  ·rw [if_pos c4] at H
   have c4b0 : (a0_1 == 0) = true := beq_iff_eq.mpr c4
   have c4b1 : (a0_1 != 0) = false := bne_eq_false_iff_eq.mpr c4
   clear c4
   obtain rfl := Option.some.inj H
   go_enter Tryd.func41, Tryd.ntmps41
   go_wp2_with (first | ((with_reducible refine gate_dst (N := 1) rfl ?_); refine box_event ?hg (N := 1) ?hd (cs := #[.string a0_0, .int .i64 a0_1]) (t := 23) ?hr ?_; (case hd => rfl); (case hg => rfl); (case hr => first | (go_simp; done) | (go_simp; rfl)); intro gb145 hg w5 hbox hb; have n0_ := Aside0.mk (below_step (by repeat (first | (with_reducible first | exact HB.out | apply below_alloc | apply pw_below_drewN | apply below_drew1) | exact HB.out)) hb); have n1_ := Aside0.mk (hbox); have n2_ := Aside0.mk ((by rw [hg]; exact (below_size (by repeat (first | (with_reducible first | exact HB.out | apply below_alloc | apply pw_below_drewN | apply below_drew1) | exact HB.out))) : w.heap.size ≤ gb145)); have n3_ := Aside0.mk ((by rw [hg]; exact (below_size (by repeat (first | (with_reducible first | exact HB.out | apply below_alloc | apply pw_below_drewN | apply below_drew1) | exact HB.out))) : w.heap.size ≤ gb145)); clear HB; have HB := n0_; have BK145 := n1_; have GW145 := n2_; have GE145 := n3_; clear n0_ n1_ n2_ n3_; clear hb hbox hg; have hcz6_0 : w5.cell? ⟨gb145, 0, none⟩ = some (.string a0_0) := (blk_cell BK145.out 0).trans rfl; have hcz6_1 : w5.cell? ⟨gb145, 1, none⟩ = some (.int .i64 a0_1) := (blk_cell BK145.out 1).trans rfl; have hfz6_0 := blk_frozen BK145.out 0; have hfz6_1 := blk_frozen BK145.out 1) | (go_at_call 40; (with_reducible refine (call_Right.calls a0_0 a0_1 true _ A2.out).mono ?_); rintro e w7 ⟨rfl, hb⟩; have n0_ := Aside0.mk (blk_below (g := gb145) (o := .cells #[.string a0_0, .int .i64 a0_1] 23 (0, 0)) (by (with_reducible repeat (first | refine blk_drewN ?_ _ | refine blk_drew ?_ | refine blk_alloc ?_ _)); exact BK145.out) hb); have n1_ := Aside0.mk (below_step (by repeat (first | (with_reducible first | exact HB.out | apply below_alloc | apply pw_below_drewN | apply below_drew1 | refine below_set ?_ GE145.out) | exact HB.out)) hb); clear BK145; clear HB; have BK145 := n0_; have HB := n1_; clear n0_ n1_; (try clear hb); (try clear hb2); (try clear hk); (try clear hi); have hcz8_0 : w7.cell? ⟨gb145, 0, none⟩ = some (.string a0_0) := (blk_cell BK145.out 0).trans rfl; have hcz8_1 : w7.cell? ⟨gb145, 1, none⟩ = some (.int .i64 a0_1) := (blk_cell BK145.out 1).trans rfl; have hfz8_0 := blk_frozen BK145.out 0; have hfz8_1 := blk_frozen BK145.out 1))
   repeat (go_quiet (first | ((with_reducible refine gate_dst (N := 1) rfl ?_); refine box_event ?hg (N := 1) ?hd (cs := #[.string a0_0, .int .i64 a0_1]) (t := 23) ?hr ?_; (case hd => rfl); (case hg => rfl); (case hr => first | (go_simp; done) | (go_simp; rfl)); intro gb145 hg w5 hbox hb; have n0_ := Aside0.mk (below_step (by repeat (first | (with_reducible first | exact HB.out | apply below_alloc | apply pw_below_drewN | apply below_drew1) | exact HB.out)) hb); have n1_ := Aside0.mk (hbox); have n2_ := Aside0.mk ((by rw [hg]; exact (below_size (by repeat (first | (with_reducible first | exact HB.out | apply below_alloc | apply pw_below_drewN | apply below_drew1) | exact HB.out))) : w.heap.size ≤ gb145)); have n3_ := Aside0.mk ((by rw [hg]; exact (below_size (by repeat (first | (with_reducible first | exact HB.out | apply below_alloc | apply pw_below_drewN | apply below_drew1) | exact HB.out))) : w.heap.size ≤ gb145)); clear HB; have HB := n0_; have BK145 := n1_; have GW145 := n2_; have GE145 := n3_; clear n0_ n1_ n2_ n3_; clear hb hbox hg; have hcz6_0 : w5.cell? ⟨gb145, 0, none⟩ = some (.string a0_0) := (blk_cell BK145.out 0).trans rfl; have hcz6_1 : w5.cell? ⟨gb145, 1, none⟩ = some (.int .i64 a0_1) := (blk_cell BK145.out 1).trans rfl; have hfz6_0 := blk_frozen BK145.out 0; have hfz6_1 := blk_frozen BK145.out 1) | (go_at_call 40; (with_reducible refine (call_Right.calls a0_0 a0_1 true _ A2.out).mono ?_); rintro e w7 ⟨rfl, hb⟩; have n0_ := Aside0.mk (blk_below (g := gb145) (o := .cells #[.string a0_0, .int .i64 a0_1] 23 (0, 0)) (by (with_reducible repeat (first | refine blk_drewN ?_ _ | refine blk_drew ?_ | refine blk_alloc ?_ _)); exact BK145.out) hb); have n1_ := Aside0.mk (below_step (by repeat (first | (with_reducible first | exact HB.out | apply below_alloc | apply pw_below_drewN | apply below_drew1 | refine below_set ?_ GE145.out) | exact HB.out)) hb); clear BK145; clear HB; have BK145 := n0_; have HB := n1_; clear n0_ n1_; (try clear hb); (try clear hb2); (try clear hk); (try clear hi); have hcz8_0 : w7.cell? ⟨gb145, 0, none⟩ = some (.string a0_0) := (blk_cell BK145.out 0).trans rfl; have hcz8_1 : w7.cell? ⟨gb145, 1, none⟩ = some (.int .i64 a0_1) := (blk_cell BK145.out 1).trans rfl; have hfz8_0 := blk_frozen BK145.out 0; have hfz8_1 := blk_frozen BK145.out 1)); try go_wp2_with (first | ((with_reducible refine gate_dst (N := 1) rfl ?_); refine box_event ?hg (N := 1) ?hd (cs := #[.string a0_0, .int .i64 a0_1]) (t := 23) ?hr ?_; (case hd => rfl); (case hg => rfl); (case hr => first | (go_simp; done) | (go_simp; rfl)); intro gb145 hg w5 hbox hb; have n0_ := Aside0.mk (below_step (by repeat (first | (with_reducible first | exact HB.out | apply below_alloc | apply pw_below_drewN | apply below_drew1) | exact HB.out)) hb); have n1_ := Aside0.mk (hbox); have n2_ := Aside0.mk ((by rw [hg]; exact (below_size (by repeat (first | (with_reducible first | exact HB.out | apply below_alloc | apply pw_below_drewN | apply below_drew1) | exact HB.out))) : w.heap.size ≤ gb145)); have n3_ := Aside0.mk ((by rw [hg]; exact (below_size (by repeat (first | (with_reducible first | exact HB.out | apply below_alloc | apply pw_below_drewN | apply below_drew1) | exact HB.out))) : w.heap.size ≤ gb145)); clear HB; have HB := n0_; have BK145 := n1_; have GW145 := n2_; have GE145 := n3_; clear n0_ n1_ n2_ n3_; clear hb hbox hg; have hcz6_0 : w5.cell? ⟨gb145, 0, none⟩ = some (.string a0_0) := (blk_cell BK145.out 0).trans rfl; have hcz6_1 : w5.cell? ⟨gb145, 1, none⟩ = some (.int .i64 a0_1) := (blk_cell BK145.out 1).trans rfl; have hfz6_0 := blk_frozen BK145.out 0; have hfz6_1 := blk_frozen BK145.out 1) | (go_at_call 40; (with_reducible refine (call_Right.calls a0_0 a0_1 true _ A2.out).mono ?_); rintro e w7 ⟨rfl, hb⟩; have n0_ := Aside0.mk (blk_below (g := gb145) (o := .cells #[.string a0_0, .int .i64 a0_1] 23 (0, 0)) (by (with_reducible repeat (first | refine blk_drewN ?_ _ | refine blk_drew ?_ | refine blk_alloc ?_ _)); exact BK145.out) hb); have n1_ := Aside0.mk (below_step (by repeat (first | (with_reducible first | exact HB.out | apply below_alloc | apply pw_below_drewN | apply below_drew1 | refine below_set ?_ GE145.out) | exact HB.out)) hb); clear BK145; clear HB; have BK145 := n0_; have HB := n1_; clear n0_ n1_; (try clear hb); (try clear hb2); (try clear hk); (try clear hi); have hcz8_0 : w7.cell? ⟨gb145, 0, none⟩ = some (.string a0_0) := (blk_cell BK145.out 0).trans rfl; have hcz8_1 : w7.cell? ⟨gb145, 1, none⟩ = some (.int .i64 a0_1) := (blk_cell BK145.out 1).trans rfl; have hfz8_0 := blk_frozen BK145.out 0; have hfz8_1 := blk_frozen BK145.out 1)))
   go_ret
   exact ⟨by first | rfl | (simp [errW_none, errW_some] <;> rfl) | (simp [*, errW_none, errW_some] <;> rfl), by repeat (first | (with_reducible first | exact HB.out | apply below_alloc | apply pw_below_drewN | apply below_drew1 | refine below_set ?_ GE145.out) | exact HB.out)⟩
  ·rw [if_neg c4] at H
   have c4b0 : (a0_1 == 0) = false := beq_eq_false_iff_ne.mpr c4
   have c4b1 : (a0_1 != 0) = true := bne_iff_ne.mpr c4
   by_cases c9 : a0_0.size + 1 ≤ 9223372036854775807
   ·rw [if_pos c9] at H
    have c9b0 := eq_true c9
    have c9b1 : decide (a0_0.size + 1 ≤ 9223372036854775807) = true := decide_eq_true c9
    try have c9b2 : (9223372036854775807 < a0_0.size + 1) = False := eq_false (Nat.not_lt.2 c9)
    replace H := Option.bind_eq_some_iff.mp H
    obtain ⟨t147, A100, H⟩ := H
    replace H : (if (a0_0 ++ (⟨#[45]⟩ : ByteArray)).size + t147.size ≤ 9223372036854775807 then (some ((a0_0 ++ (⟨#[45]⟩ : ByteArray)) ++ t147)) else (none)) = some r := H
    have A10 := Aside0.mk A100
    clear A100
    by_cases c11 : (a0_0 ++ (⟨#[45]⟩ : ByteArray)).size + t147.size ≤ 9223372036854775807
    ·rw [if_pos c11] at H
     have c11b0 := eq_true c11
     have c11b1 : decide ((a0_0 ++ (⟨#[45]⟩ : ByteArray)).size + t147.size ≤ 9223372036854775807) = true := decide_eq_true c11
     try have c11b2 : (9223372036854775807 < (a0_0 ++ (⟨#[45]⟩ : ByteArray)).size + t147.size) = False := eq_false (Nat.not_lt.2 c11)
     obtain rfl := Option.some.inj H
     go_enter Tryd.func41, Tryd.ntmps41
     go_wp2_with (first | ((with_reducible refine gate_dst (N := 1) rfl ?_); refine box_event ?hg (N := 1) ?hd (cs := #[.string a0_0, .int .i64 a0_1]) (t := 23) ?hr ?_; (case hd => rfl); (case hg => rfl); (case hr => first | (go_simp; done) | (go_simp; rfl)); intro gb145 hg w12 hbox hb; have n0_ := Aside0.mk (below_step (by repeat (first | (with_reducible first | exact HB.out | apply below_alloc | apply pw_below_drewN | apply below_drew1) | exact HB.out)) hb); have n1_ := Aside0.mk (hbox); have n2_ := Aside0.mk ((by rw [hg]; exact (below_size (by repeat (first | (with_reducible first | exact HB.out | apply below_alloc | apply pw_below_drewN | apply below_drew1) | exact HB.out))) : w.heap.size ≤ gb145)); have n3_ := Aside0.mk ((by rw [hg]; exact (below_size (by repeat (first | (with_reducible first | exact HB.out | apply below_alloc | apply pw_below_drewN | apply below_drew1) | exact HB.out))) : w.heap.size ≤ gb145)); clear HB; have HB := n0_; have BK145 := n1_; have GW145 := n2_; have GE145 := n3_; clear n0_ n1_ n2_ n3_; clear hb hbox hg; have hcz13_0 : w12.cell? ⟨gb145, 0, none⟩ = some (.string a0_0) := (blk_cell BK145.out 0).trans rfl; have hcz13_1 : w12.cell? ⟨gb145, 1, none⟩ = some (.int .i64 a0_1) := (blk_cell BK145.out 1).trans rfl; have hfz13_0 := blk_frozen BK145.out 0; have hfz13_1 := blk_frozen BK145.out 1) | (go_at_call 40; (with_reducible refine (call_Right.calls a0_0 a0_1 true _ A2.out).mono ?_); rintro e w14 ⟨rfl, hb⟩; have n0_ := Aside0.mk (blk_below (g := gb145) (o := .cells #[.string a0_0, .int .i64 a0_1] 23 (0, 0)) (by (with_reducible repeat (first | refine blk_drewN ?_ _ | refine blk_drew ?_ | refine blk_alloc ?_ _)); exact BK145.out) hb); have n1_ := Aside0.mk (below_step (by repeat (first | (with_reducible first | exact HB.out | apply below_alloc | apply pw_below_drewN | apply below_drew1 | refine below_set ?_ GE145.out) | exact HB.out)) hb); clear BK145; clear HB; have BK145 := n0_; have HB := n1_; clear n0_ n1_; (try clear hb); (try clear hb2); (try clear hk); (try clear hi); have hcz15_0 : w14.cell? ⟨gb145, 0, none⟩ = some (.string a0_0) := (blk_cell BK145.out 0).trans rfl; have hcz15_1 : w14.cell? ⟨gb145, 1, none⟩ = some (.int .i64 a0_1) := (blk_cell BK145.out 1).trans rfl; have hfz15_0 := blk_frozen BK145.out 0; have hfz15_1 := blk_frozen BK145.out 1) | (go_at_call 69; (with_reducible refine (strconv_Itoa_69.calls a0_1 t147 _ A10.out).mono ?_); rintro e w' ⟨rfl, ⟨nd, rfl⟩⟩; (try first | exact ⟨rfl, _, World.drewN_drewN _ _ _⟩ | exact ⟨rfl, _, Eq.trans (World.drewN_drewN _ _ _) (congrArg (World.drewN _) (Nat.add_assoc _ _ _))⟩)))
     repeat (go_quiet (first | ((with_reducible refine gate_dst (N := 1) rfl ?_); refine box_event ?hg (N := 1) ?hd (cs := #[.string a0_0, .int .i64 a0_1]) (t := 23) ?hr ?_; (case hd => rfl); (case hg => rfl); (case hr => first | (go_simp; done) | (go_simp; rfl)); intro gb145 hg w12 hbox hb; have n0_ := Aside0.mk (below_step (by repeat (first | (with_reducible first | exact HB.out | apply below_alloc | apply pw_below_drewN | apply below_drew1) | exact HB.out)) hb); have n1_ := Aside0.mk (hbox); have n2_ := Aside0.mk ((by rw [hg]; exact (below_size (by repeat (first | (with_reducible first | exact HB.out | apply below_alloc | apply pw_below_drewN | apply below_drew1) | exact HB.out))) : w.heap.size ≤ gb145)); have n3_ := Aside0.mk ((by rw [hg]; exact (below_size (by repeat (first | (with_reducible first | exact HB.out | apply below_alloc | apply pw_below_drewN | apply below_drew1) | exact HB.out))) : w.heap.size ≤ gb145)); clear HB; have HB := n0_; have BK145 := n1_; have GW145 := n2_; have GE145 := n3_; clear n0_ n1_ n2_ n3_; clear hb hbox hg; have hcz13_0 : w12.cell? ⟨gb145, 0, none⟩ = some (.string a0_0) := (blk_cell BK145.out 0).trans rfl; have hcz13_1 : w12.cell? ⟨gb145, 1, none⟩ = some (.int .i64 a0_1) := (blk_cell BK145.out 1).trans rfl; have hfz13_0 := blk_frozen BK145.out 0; have hfz13_1 := blk_frozen BK145.out 1) | (go_at_call 40; (with_reducible refine (call_Right.calls a0_0 a0_1 true _ A2.out).mono ?_); rintro e w14 ⟨rfl, hb⟩; have n0_ := Aside0.mk (blk_below (g := gb145) (o := .cells #[.string a0_0, .int .i64 a0_1] 23 (0, 0)) (by (with_reducible repeat (first | refine blk_drewN ?_ _ | refine blk_drew ?_ | refine blk_alloc ?_ _)); exact BK145.out) hb); have n1_ := Aside0.mk (below_step (by repeat (first | (with_reducible first | exact HB.out | apply below_alloc | apply pw_below_drewN | apply below_drew1 | refine below_set ?_ GE145.out) | exact HB.out)) hb); clear BK145; clear HB; have BK145 := n0_; have HB := n1_; clear n0_ n1_; (try clear hb); (try clear hb2); (try clear hk); (try clear hi); have hcz15_0 : w14.cell? ⟨gb145, 0, none⟩ = some (.string a0_0) := (blk_cell BK145.out 0).trans rfl; have hcz15_1 : w14.cell? ⟨gb145, 1, none⟩ = some (.int .i64 a0_1) := (blk_cell BK145.out 1).trans rfl; have hfz15_0 := blk_frozen BK145.out 0; have hfz15_1 := blk_frozen BK145.out 1) | (go_at_call 69; (with_reducible refine (strconv_Itoa_69.calls a0_1 t147 _ A10.out).mono ?_); rintro e w' ⟨rfl, ⟨nd, rfl⟩⟩; (try first | exact ⟨rfl, _, World.drewN_drewN _ _ _⟩ | exact ⟨rfl, _, Eq.trans (World.drewN_drewN _ _ _) (congrArg (World.drewN _) (Nat.add_assoc _ _ _))⟩))); try go_wp2_with (first | ((with_reducible refine gate_dst (N := 1) rfl ?_); refine box_event ?hg (N := 1) ?hd (cs := #[.string a0_0, .int .i64 a0_1]) (t := 23) ?hr ?_; (case hd => rfl); (case hg => rfl); (case hr => first | (go_simp; done) | (go_simp; rfl)); intro gb145 hg w12 hbox hb; have n0_ := Aside0.mk (below_step (by repeat (first | (with_reducible first | exact HB.out | apply below_alloc | apply pw_below_drewN | apply below_drew1) | exact HB.out)) hb); have n1_ := Aside0.mk (hbox); have n2_ := Aside0.mk ((by rw [hg]; exact (below_size (by repeat (first | (with_reducible first | exact HB.out | apply below_alloc | apply pw_below_drewN | apply below_drew1) | exact HB.out))) : w.heap.size ≤ gb145)); have n3_ := Aside0.mk ((by rw [hg]; exact (below_size (by repeat (first | (with_reducible first | exact HB.out | apply below_alloc | apply pw_below_drewN | apply below_drew1) | exact HB.out))) : w.heap.size ≤ gb145)); clear HB; have HB := n0_; have BK145 := n1_; have GW145 := n2_; have GE145 := n3_; clear n0_ n1_ n2_ n3_; clear hb hbox hg; have hcz13_0 : w12.cell? ⟨gb145, 0, none⟩ = some (.string a0_0) := (blk_cell BK145.out 0).trans rfl; have hcz13_1 : w12.cell? ⟨gb145, 1, none⟩ = some (.int .i64 a0_1) := (blk_cell BK145.out 1).trans rfl; have hfz13_0 := blk_frozen BK145.out 0; have hfz13_1 := blk_frozen BK145.out 1) | (go_at_call 40; (with_reducible refine (call_Right.calls a0_0 a0_1 true _ A2.out).mono ?_); rintro e w14 ⟨rfl, hb⟩; have n0_ := Aside0.mk (blk_below (g := gb145) (o := .cells #[.string a0_0, .int .i64 a0_1] 23 (0, 0)) (by (with_reducible repeat (first | refine blk_drewN ?_ _ | refine blk_drew ?_ | refine blk_alloc ?_ _)); exact BK145.out) hb); have n1_ := Aside0.mk (below_step (by repeat (first | (with_reducible first | exact HB.out | apply below_alloc | apply pw_below_drewN | apply below_drew1 | refine below_set ?_ GE145.out) | exact HB.out)) hb); clear BK145; clear HB; have BK145 := n0_; have HB := n1_; clear n0_ n1_; (try clear hb); (try clear hb2); (try clear hk); (try clear hi); have hcz15_0 : w14.cell? ⟨gb145, 0, none⟩ = some (.string a0_0) := (blk_cell BK145.out 0).trans rfl; have hcz15_1 : w14.cell? ⟨gb145, 1, none⟩ = some (.int .i64 a0_1) := (blk_cell BK145.out 1).trans rfl; have hfz15_0 := blk_frozen BK145.out 0; have hfz15_1 := blk_frozen BK145.out 1) | (go_at_call 69; (with_reducible refine (strconv_Itoa_69.calls a0_1 t147 _ A10.out).mono ?_); rintro e w' ⟨rfl, ⟨nd, rfl⟩⟩; (try first | exact ⟨rfl, _, World.drewN_drewN _ _ _⟩ | exact ⟨rfl, _, Eq.trans (World.drewN_drewN _ _ _) (congrArg (World.drewN _) (Nat.add_assoc _ _ _))⟩))))
     go_ret
     exact ⟨by first | rfl | (simp [errW_none, errW_some] <;> rfl) | (simp [*, errW_none, errW_some] <;> rfl), by repeat (first | (with_reducible first | exact HB.out | apply below_alloc | apply pw_below_drewN | apply below_drew1 | refine below_set ?_ GE145.out) | exact HB.out)⟩
    ·rw [if_neg c11] at H
     exact absurd H (by simp)
   ·rw [if_neg c9] at H
    exact absurd H (by simp)
 ·replace c3 := Bool.eq_false_iff.mpr c3
  subst c3
  have H1 : (some (⟨#[]⟩ : ByteArray)) = some r := by rw [if_neg (show ¬ (false = true) by decide)] at H; exact H
  clear H
  have H := H1
  clear H1
  obtain rfl := Option.some.inj H
  go_enter Tryd.func41, Tryd.ntmps41
  go_wp2_with (first | ((with_reducible refine gate_dst (N := 1) rfl ?_); refine box_event ?hg (N := 1) ?hd (cs := #[.string a0_0, .int .i64 a0_1]) (t := 23) ?hr ?_; (case hd => rfl); (case hg => rfl); (case hr => first | (go_simp; done) | (go_simp; rfl)); intro gb145 hg w16 hbox hb; have n0_ := Aside0.mk (below_step (by repeat (first | (with_reducible first | exact HB.out | apply below_alloc | apply pw_below_drewN | apply below_drew1) | exact HB.out)) hb); have n1_ := Aside0.mk (hbox); have n2_ := Aside0.mk ((by rw [hg]; exact (below_size (by repeat (first | (with_reducible first | exact HB.out | apply below_alloc | apply pw_below_drewN | apply below_drew1) | exact HB.out))) : w.heap.size ≤ gb145)); have n3_ := Aside0.mk ((by rw [hg]; exact (below_size (by repeat (first | (with_reducible first | exact HB.out | apply below_alloc | apply pw_below_drewN | apply below_drew1) | exact HB.out))) : w.heap.size ≤ gb145)); clear HB; have HB := n0_; have BK145 := n1_; have GW145 := n2_; have GE145 := n3_; clear n0_ n1_ n2_ n3_; clear hb hbox hg; have hcz17_0 : w16.cell? ⟨gb145, 0, none⟩ = some (.string a0_0) := (blk_cell BK145.out 0).trans rfl; have hcz17_1 : w16.cell? ⟨gb145, 1, none⟩ = some (.int .i64 a0_1) := (blk_cell BK145.out 1).trans rfl; have hfz17_0 := blk_frozen BK145.out 0; have hfz17_1 := blk_frozen BK145.out 1) | (go_at_call 40; (with_reducible refine (call_Right.calls a0_0 a0_1 false _ A2.out).mono ?_); rintro e w18 ⟨rfl, hb⟩; have n0_ := Aside0.mk (blk_below (g := gb145) (o := .cells #[.string a0_0, .int .i64 a0_1] 23 (0, 0)) (by (with_reducible repeat (first | refine blk_drewN ?_ _ | refine blk_drew ?_ | refine blk_alloc ?_ _)); exact BK145.out) hb); have n1_ := Aside0.mk (below_step (by repeat (first | (with_reducible first | exact HB.out | apply below_alloc | apply pw_below_drewN | apply below_drew1 | refine below_set ?_ GE145.out) | exact HB.out)) hb); clear BK145; clear HB; have BK145 := n0_; have HB := n1_; clear n0_ n1_; (try clear hb); (try clear hb2); (try clear hk); (try clear hi)))
  repeat (go_quiet (first | ((with_reducible refine gate_dst (N := 1) rfl ?_); refine box_event ?hg (N := 1) ?hd (cs := #[.string a0_0, .int .i64 a0_1]) (t := 23) ?hr ?_; (case hd => rfl); (case hg => rfl); (case hr => first | (go_simp; done) | (go_simp; rfl)); intro gb145 hg w16 hbox hb; have n0_ := Aside0.mk (below_step (by repeat (first | (with_reducible first | exact HB.out | apply below_alloc | apply pw_below_drewN | apply below_drew1) | exact HB.out)) hb); have n1_ := Aside0.mk (hbox); have n2_ := Aside0.mk ((by rw [hg]; exact (below_size (by repeat (first | (with_reducible first | exact HB.out | apply below_alloc | apply pw_below_drewN | apply below_drew1) | exact HB.out))) : w.heap.size ≤ gb145)); have n3_ := Aside0.mk ((by rw [hg]; exact (below_size (by repeat (first | (with_reducible first | exact HB.out | apply below_alloc | apply pw_below_drewN | apply below_drew1) | exact HB.out))) : w.heap.size ≤ gb145)); clear HB; have HB := n0_; have BK145 := n1_; have GW145 := n2_; have GE145 := n3_; clear n0_ n1_ n2_ n3_; clear hb hbox hg; have hcz17_0 : w16.cell? ⟨gb145, 0, none⟩ = some (.string a0_0) := (blk_cell BK145.out 0).trans rfl; have hcz17_1 : w16.cell? ⟨gb145, 1, none⟩ = some (.int .i64 a0_1) := (blk_cell BK145.out 1).trans rfl; have hfz17_0 := blk_frozen BK145.out 0; have hfz17_1 := blk_frozen BK145.out 1) | (go_at_call 40; (with_reducible refine (call_Right.calls a0_0 a0_1 false _ A2.out).mono ?_); rintro e w18 ⟨rfl, hb⟩; have n0_ := Aside0.mk (blk_below (g := gb145) (o := .cells #[.string a0_0, .int .i64 a0_1] 23 (0, 0)) (by (with_reducible repeat (first | refine blk_drewN ?_ _ | refine blk_drew ?_ | refine blk_alloc ?_ _)); exact BK145.out) hb); have n1_ := Aside0.mk (below_step (by repeat (first | (with_reducible first | exact HB.out | apply below_alloc | apply pw_below_drewN | apply below_drew1 | refine below_set ?_ GE145.out) | exact HB.out)) hb); clear BK145; clear HB; have BK145 := n0_; have HB := n1_; clear n0_ n1_; (try clear hb); (try clear hb2); (try clear hk); (try clear hi))); try go_wp2_with (first | ((with_reducible refine gate_dst (N := 1) rfl ?_); refine box_event ?hg (N := 1) ?hd (cs := #[.string a0_0, .int .i64 a0_1]) (t := 23) ?hr ?_; (case hd => rfl); (case hg => rfl); (case hr => first | (go_simp; done) | (go_simp; rfl)); intro gb145 hg w16 hbox hb; have n0_ := Aside0.mk (below_step (by repeat (first | (with_reducible first | exact HB.out | apply below_alloc | apply pw_below_drewN | apply below_drew1) | exact HB.out)) hb); have n1_ := Aside0.mk (hbox); have n2_ := Aside0.mk ((by rw [hg]; exact (below_size (by repeat (first | (with_reducible first | exact HB.out | apply below_alloc | apply pw_below_drewN | apply below_drew1) | exact HB.out))) : w.heap.size ≤ gb145)); have n3_ := Aside0.mk ((by rw [hg]; exact (below_size (by repeat (first | (with_reducible first | exact HB.out | apply below_alloc | apply pw_below_drewN | apply below_drew1) | exact HB.out))) : w.heap.size ≤ gb145)); clear HB; have HB := n0_; have BK145 := n1_; have GW145 := n2_; have GE145 := n3_; clear n0_ n1_ n2_ n3_; clear hb hbox hg; have hcz17_0 : w16.cell? ⟨gb145, 0, none⟩ = some (.string a0_0) := (blk_cell BK145.out 0).trans rfl; have hcz17_1 : w16.cell? ⟨gb145, 1, none⟩ = some (.int .i64 a0_1) := (blk_cell BK145.out 1).trans rfl; have hfz17_0 := blk_frozen BK145.out 0; have hfz17_1 := blk_frozen BK145.out 1) | (go_at_call 40; (with_reducible refine (call_Right.calls a0_0 a0_1 false _ A2.out).mono ?_); rintro e w18 ⟨rfl, hb⟩; have n0_ := Aside0.mk (blk_below (g := gb145) (o := .cells #[.string a0_0, .int .i64 a0_1] 23 (0, 0)) (by (with_reducible repeat (first | refine blk_drewN ?_ _ | refine blk_drew ?_ | refine blk_alloc ?_ _)); exact BK145.out) hb); have n1_ := Aside0.mk (below_step (by repeat (first | (with_reducible first | exact HB.out | apply below_alloc | apply pw_below_drewN | apply below_drew1 | refine below_set ?_ GE145.out) | exact HB.out)) hb); clear BK145; clear HB; have BK145 := n0_; have HB := n1_; clear n0_ n1_; (try clear hb); (try clear hb2); (try clear hk); (try clear hi))))
  go_ret
  exact ⟨by first | rfl | (simp [errW_none, errW_some] <;> rfl) | (simp [*, errW_none, errW_some] <;> rfl), by repeat (first | (with_reducible first | exact HB.out | apply below_alloc | apply pw_below_drewN | apply below_drew1 | refine below_set ?_ GE145.out) | exact HB.out)⟩

end Go.Proofs.YtpmieapgbdbabaaDoor.QAll
end

section
/- path.Text, walked by hand: the word of a right path. -/
set_option linter.unusedVariables false
set_option linter.unusedSimpArgs false
namespace Go.Proofs.YtpmieapgbdbabaaDoor.QAll
open Go.RowKit Go.Shelf Go.Proofs.YtpmieapgbdbabaaDoorW.PrintWords Go.Proofs.YtpmieapgbdbabaaDoorW.PrintLast Go.Proofs.YtpmieapgbdbabaaDoorW.PrintMore

/-- A call's word, if it is right. -/
def wordS (s : ByteArray) (n : Int) : ByteArray := (call_Text.f s n).getD ⟨#[]⟩
theorem decDigits_short (n : Nat) (h : n < 100) : (Lib.decDigits n).length ≤ 2 := by
  by_cases h1 : n < 10
  · rw [Lib.decDigits_one h1]; simp
  · rw [Lib.decDigits_two h1 h]; simp
theorem word_f (s : ByteArray) (n : Int) (hr : rightB s n = true) : call_Text.f s n = some (wordS s n) ∧ (wordS s n).size ≤ 9 := by
  have hl : 1 ≤ s.size ∧ s.size ≤ 6 ∧ 0 ≤ n ∧ n ≤ 15 := by
    unfold rightB at hr
    simpa using (by simpa using hr : _ ∧ _).2
  have h1 : ∃ t, call_Text.f s n = some t ∧ t.size ≤ 9 := by
    unfold call_Text.f call_Right.f
    rw [if_pos (by omega), Option.bind_some, if_pos hr]
    by_cases h0 : n = 0
    · rw [if_pos h0]; exact ⟨_, rfl, by omega⟩
    · have hd : ((⟨(Lib.decDigits n.toNat).toArray⟩ : ByteArray)).size ≤ 2 := by
        have := decDigits_short n.toNat (by omega)
        show (List.toArray _).size ≤ 2
        simpa using this
      have h45 : (⟨#[45]⟩ : ByteArray).size = 1 := rfl
      rw [if_neg h0, if_pos (by omega)]
      unfold strconv_Itoa_69.f
      rw [if_pos (by omega), Option.bind_some, if_pos (by simp only [ByteArray.size_append]; omega)]
      exact ⟨_, rfl, by simp only [ByteArray.size_append]; omega⟩
  obtain ⟨t, h2, h3⟩ := h1
  unfold wordS
  rw [h2]
  exact ⟨rfl, h3⟩
/-- The digipeaters' words, each behind a comma; a star behind the last one that has sent it. -/
def digT : List S93 → List UInt8
  | [] => []
  | d :: r => 44 :: (wordS d.f0.f0 d.f0.f1).data.toList ++ ((if d.f1 = true ∧ (match r with | [] => true | e :: _ => !e.f1) = true then [42] else []) ++ digT r)
def pathT (a0 : ByteArray) (n0 : Int) (a1 : ByteArray) (n1 : Int) (l : List S93) : List UInt8 := (wordS a1 n1).data.toList ++ 62 :: ((wordS a0 n0).data.toList ++ digT l)
def path_Text.f (a0_0 : ByteArray) (a0_1 : Int) (a0_2 : ByteArray) (a0_3 : Int) (a0_4 : Bool) (a0_5 : Bool) (l0_6 : List S93) : Option ByteArray :=
  if sizesOk a0_0 a0_2 l0_6 = true then some (if pathB a0_0 a0_1 a0_2 a0_3 l0_6 = true then ⟨(pathT a0_0 a0_1 a0_2 a0_3 l0_6).toArray⟩ else ⟨#[]⟩) else none
theorem below_two {B B' : Nat} {w W w' : World} (h1 : Below B w W) (h : B ≤ B') (h2 : Below B' W w') : Below B w w' :=
  ⟨h2.os.trans h1.os, h2.tape.trans h1.tape, h2.output.trans h1.output, Nat.le_trans h1.size h2.size, fun k hk => (h2.block k (Nat.lt_of_lt_of_le hk h)).trans (h1.block k hk)⟩
theorem BuilderAt_below {T e : TypeId} {B b : Nat} {p : Value} {bs : List Value} {w w' : World} (h : Lib.BuilderAt T e B b p bs w) (hb : Below w.heap.size w w') : Lib.BuilderAt T e B b p bs w' := by
  have hlt := h.lt
  obtain ⟨hB, v, hbk, hown, hne⟩ := h
  exact ⟨hB, v, (hb.block b hlt).trans hbk, hown.kept (row := none) ⟨hb.os, hb.tape, hb.output, hb.size, fun k hk _ => hb.block k hk⟩ (by simp; exact Classical.em _), hne⟩
set_option maxHeartbeats 1000000 in
set_option maxRecDepth 100000 in
theorem path_Text.calls (a0_0 : ByteArray) (a0_1 : Int) (a0_2 : ByteArray) (a0_3 : Int) (a0_4 : Bool) (a0_5 : Bool) (A0_6 : Option Addr) (c0_6 : Nat) (l0_6 : List (S93)) (r : ByteArray) (w : World) (hr0_6 : Kd.C k93 w A0_6 l0_6.length l0_6) (hc0_6 : l0_6.length ≤ c0_6) (h : path_Text.f a0_0 a0_1 a0_2 a0_3 a0_4 a0_5 l0_6 = some r) :
    Calls Tryd.prog 33 #[.agg #[.string a0_0, .int .i64 a0_1, .string a0_2, .int .i64 a0_3, .bool a0_4, .bool a0_5, .slice A0_6 l0_6.length c0_6]] w fun e w' => e = .returned (.string r) ∧ Below w.heap.size w w' := by
  unfold path_Text.f at h
  split at h
  case isFalse => cases h
  rename_i hs
  have HR_ := Aside0.mk (Option.some.inj h)
  have HR := Aside0.mk hr0_6
  have HSZ := Aside0.mk hs
  clear hr0_6 h hs
  have hu26 := Tryd.underlying26
  have hu23 := Tryd.underlying23
  have hu93 := Tryd.underlying93
  go_enter Tryd.func33, Tryd.ntmps33
  go_wp2_with (fail)
  refine (path_Right.calls a0_0 a0_1 a0_2 a0_3 a0_4 a0_5 A0_6 c0_6 l0_6 (pathB a0_0 a0_1 a0_2 a0_3 l0_6) _ (Kd.C_below HR.out ((Below.refl _ _).alloc (Nat.le_refl _) _)) hc0_6 (by unfold path_Right.f; rw [if_pos HSZ.out])).mono ?_
  rintro e w1 ⟨rfl, hb⟩
  have hz := hb.size
  simp only [World.size_alloc] at hz
  have hblk := (hb.block w.heap.size (by simp)).trans (heap_alloc_new w _)
  have HB1 := Aside0.mk (below_then ((Below.refl w.heap.size w).alloc (Nat.le_refl _) _) (by simp) hb)
  have HK1 := Aside0.mk hblk
  clear hb hblk
  cases hp : pathB a0_0 a0_1 a0_2 a0_3 l0_6 with
  | false =>
    have hr := HR_.out
    rw [hp, if_neg (by simp)] at hr
    subst hr
    clear HR_
    go_wp2_with (fail)
    go_ret
    exact ⟨rfl, HB1.out⟩
  | true =>
    have hr := HR_.out
    rw [hp, if_pos rfl] at hr
    subst hr
    clear HR_
    have hp' := hp
    unfold pathB at hp'
    simp only [Bool.and_eq_true] at hp'
    have HWT := Aside0.mk (word_f a0_0 a0_1 hp'.1)
    have HWF := Aside0.mk (word_f a0_2 a0_3 hp'.2.1)
    have HAL := Aside0.mk hp'.2.2.1
    clear hp' hp
    go_upto_region 4 with fail
    have HBd := Aside0.mk (show Lib.BuilderAt 106 5 w1.heap.size w1.heap.size (.pointer none) [] (w1.alloc (.cells #[.pointer none, .slice none 0 0] 106)) from by
      rcases Lib.fresh_isBuilder 106 5 w1 with h | h
      · exact h
      · have := h.cell0; simp at this)
    have HK := Aside0.mk ((Below.heap_alloc w1 (.cells #[.pointer none, .slice none 0 0] 106) w.heap.size (by omega)).trans HK1.out)
    have HB := Aside0.mk (HB1.out.alloc HB1.out.size (.cells #[.pointer none, .slice none 0 0] 106))
    have HZ := Aside0.mk (show w1.heap.size ≤ (w1.alloc (.cells #[.pointer none, .slice none 0 0] 106)).heap.size by simp)
    have HG := Aside0.mk (show w.heap.size + 1 ≤ w1.heap.size from hz)
    clear HK1 HB1
    generalize w1.alloc (.cells #[.pointer none, .slice none 0 0] 106) = w3 at HBd HK HB HZ ⊢
    go_cut [9] from 9 to 17 (fun v9 wx => Aside0 (Lib.BuilderAt 106 5 w1.heap.size w1.heap.size (.pointer (some ⟨w1.heap.size, 0, none⟩)) (Lib.strCells ((wordS a0_2 a0_3 ++ (⟨#[62]⟩ : ByteArray)) ++ wordS a0_0 a0_1)) wx) ∧
      Aside0 (wx.heap[w.heap.size]? = some (.cells #[.string a0_0, .int .i64 a0_1, .string a0_2, .int .i64 a0_3, .bool a0_4, .bool a0_5, .slice A0_6 l0_6.length c0_6] 26 (0, 0))) ∧ Aside0 (Below w.heap.size w wx) ∧ Aside0 (w1.heap.size ≤ wx.heap.size))
    case first =>
      have n0_ := Aside0.mk (Lib.BuilderAt.drew HBd.out)
      have n1_ : Aside0 (w3.drew.heap[w.heap.size]? = some (.cells #[.string a0_0, .int .i64 a0_1, .string a0_2, .int .i64 a0_3, .bool a0_4, .bool a0_5, .slice A0_6 l0_6.length c0_6] 26 (0, 0))) := ⟨HK.out⟩
      have n2_ := Aside0.mk (below_drew1 HB.out)
      have n3_ : Aside0 (w1.heap.size ≤ w3.drew.heap.size) := ⟨HZ.out⟩
      clear HBd HK HB HZ
      have HBd := n0_
      have HK := n1_
      have HB := n2_
      have HZ := n3_
      clear n0_ n1_ n2_ n3_
      have x0 : w3.cell? ⟨w.heap.size, 0, none⟩ = some (.string a0_0) := blk_cell HK.out 0
      have x1 : w3.cell? ⟨w.heap.size, 1, none⟩ = some (.int .i64 a0_1) := blk_cell HK.out 1
      have x2 : w3.cell? ⟨w.heap.size, 2, none⟩ = some (.string a0_2) := blk_cell HK.out 2
      have x3 : w3.cell? ⟨w.heap.size, 3, none⟩ = some (.int .i64 a0_3) := blk_cell HK.out 3
      have h62 : (⟨#[62]⟩ : ByteArray).size = 1 := rfl
      have hw1 : (wordS a0_2 a0_3).size + 1 ≤ 9223372036854775807 := by have := HWF.out.2; omega
      have hw2 : (wordS a0_2 a0_3 ++ (⟨#[62]⟩ : ByteArray)).size + (wordS a0_0 a0_1).size ≤ 9223372036854775807 := by have := HWF.out.2; have := HWT.out.2; simp only [ByteArray.size_append]; omega
      have hw3 : (wordS a0_2 a0_3).size + 1 + (wordS a0_0 a0_1).size ≤ 9223372036854775807 := by have := HWF.out.2; have := HWT.out.2; omega
      have hws : ∀ W : World, Lib.BuilderAt 106 5 w1.heap.size w1.heap.size (.pointer none) [] W → w1.heap.size ≤ W.heap.size → Calls Tryd.prog 66 #[.pointer (some ⟨w1.heap.size, 0, none⟩), .string ((wordS a0_2 a0_3 ++ (⟨#[62]⟩ : ByteArray)) ++ wordS a0_0 a0_1)] W fun e w' => e = .returned (.tuple #[.int .i64 ((wordS a0_2 a0_3 ++ (⟨#[62]⟩ : ByteArray)) ++ wordS a0_0 a0_1).size, .nilIface]) ∧ (Lib.BuilderAt 106 5 w1.heap.size w1.heap.size (.pointer (some ⟨w1.heap.size, 0, none⟩)) ([] ++ Lib.strCells ((wordS a0_2 a0_3 ++ (⟨#[62]⟩ : ByteArray)) ++ wordS a0_0 a0_1)) w' ∧ Below w1.heap.size W w') := fun W g1 g2 =>
        (writeString w1.heap.size w1.heap.size [] _ W (Or.inl g1) (by have := HWF.out.2; have := HWT.out.2; simp only [ByteArray.size_append, List.length_nil]; omega) g2).mono fun e w' h => ⟨h.1, h.2.1, h.2.2.1⟩
      go_region_with (first | (go_at_call 41; (first | (with_reducible refine (call_Text.calls a0_0 a0_1 (wordS a0_0 a0_1) _ HWT.out.1).mono ?_) | (with_reducible refine (call_Text.calls a0_2 a0_3 (wordS a0_2 a0_3) _ HWF.out.1).mono ?_)); rintro e w' ⟨rfl, hb⟩; have n0_ := Aside0.mk (BuilderAt_below HBd.out hb); have n1_ := Aside0.mk ((hb.block w.heap.size (Nat.lt_of_lt_of_le HG.out HZ.out)).trans HK.out); have n2_ := Aside0.mk (below_then HB.out HB.out.size hb); have n3_ := Aside0.mk (Nat.le_trans HZ.out hb.size); clear HBd HK HB HZ hb; have HBd := n0_; have HK := n1_; have HB := n2_; have HZ := n3_; clear n0_ n1_ n2_ n3_; have x0 : w'.cell? ⟨w.heap.size, 0, none⟩ = some (.string a0_0) := blk_cell HK.out 0; have x1 : w'.cell? ⟨w.heap.size, 1, none⟩ = some (.int .i64 a0_1) := blk_cell HK.out 1; have x2 : w'.cell? ⟨w.heap.size, 2, none⟩ = some (.string a0_2) := blk_cell HK.out 2; have x3 : w'.cell? ⟨w.heap.size, 3, none⟩ = some (.int .i64 a0_3) := blk_cell HK.out 3) | (go_at_call 66; (refine (hws _ HBd.out HZ.out).mono ?_); rintro e w' ⟨rfl, hbd, hb⟩; have n1_ := Aside0.mk ((hb.block w.heap.size HG.out).trans HK.out); have n2_ := Aside0.mk (below_two HB.out (Nat.le_of_lt HG.out) hb); have n3_ := Aside0.mk (Nat.le_trans HZ.out hb.size); have n0_ := Aside0.mk hbd; clear HBd HK HB HZ hb hbd; have HBd := n0_; have HK := n1_; have HB := n2_; have HZ := n3_; clear n0_ n1_ n2_ n3_))
      all_goals (go_wp2_with (fail); go_meet; exact ⟨⟨by simpa using HBd.out⟩, ⟨HK.out⟩, ⟨HB.out⟩, ⟨HZ.out⟩⟩)
    case rest =>
      clear HBd HK HB HZ
      obtain ⟨HBd, HK, HB, HZ⟩ := hcut
      have x6 : wc.cell? ⟨w.heap.size, 6, none⟩ = some (.slice A0_6 l0_6.length c0_6) := blk_cell HK.out 6
      go_wp2
      have HX := Aside0.mk (show Lib.strCells ((wordS a0_2 a0_3 ++ (⟨#[62]⟩ : ByteArray)) ++ wordS a0_0 a0_1) = Lib.byteCells ((wordS a0_2 a0_3).data.toList ++ 62 :: (wordS a0_0 a0_1).data.toList) by rw [Lib.strCells_eq]; simp)
      have HXl := Aside0.mk (show ((wordS a0_2 a0_3).data.toList ++ 62 :: (wordS a0_0 a0_1).data.toList).length ≤ 20 by
        have h1 := HWF.out.2; have h2 := HWT.out.2
        simp only [List.length_append, List.length_cons, Array.length_toList]
        have h3 : (wordS a0_2 a0_3).data.size = (wordS a0_2 a0_3).size := rfl
        have h4 : (wordS a0_0 a0_1).data.size = (wordS a0_0 a0_1).size := rfl
        omega)
      rw [HX.out] at HBd
      have HL := Aside0.mk (show l0_6.length ≤ 1000000 by have := HSZ.out; unfold sizesOk at this; simp at this; exact this.2.2.2)
      go_loopw [4, 5, 21] (fun v4 v5 v21 wr => ∃ (k : Nat) (X : List UInt8), k ≤ l0_6.length ∧ v21 = .int .i64 k ∧ Aside0 (X ++ digT (l0_6.drop k) = pathT a0_0 a0_1 a0_2 a0_3 l0_6) ∧ Aside0 (X.length ≤ 20 + 12 * k) ∧
        Aside0 (Lib.BuilderAt 106 5 w1.heap.size w1.heap.size (.pointer (some ⟨w1.heap.size, 0, none⟩)) (Lib.byteCells X) wr) ∧
        Aside0 (wr.heap[w.heap.size]? = some (.cells #[.string a0_0, .int .i64 a0_1, .string a0_2, .int .i64 a0_3, .bool a0_4, .bool a0_5, .slice A0_6 l0_6.length c0_6] 26 (0, 0))) ∧ Aside0 (Below w.heap.size w wr) ∧ Aside0 (w1.heap.size ≤ wr.heap.size))
        (fun v4 v5 v21 _ => l0_6.length - (intOf v21).toNat)
      case atStart =>
        exact ⟨0, _, Nat.zero_le _, rfl, ⟨by rw [List.drop_zero]; unfold pathT; simp⟩, ⟨by have := HXl.out; omega⟩, HBd, HK, HB, HZ⟩
      case round =>
        clear HBd HK HB HZ x6
        obtain ⟨k, X, hk, rfl, HT, HXk, HBd, HK, HB, HZ⟩ := hrel
        have x6 : wr.cell? ⟨w.heap.size, 6, none⟩ = some (.slice A0_6 l0_6.length c0_6) := blk_cell HK.out 6
        by_cases hlt : k < l0_6.length
        · obtain ⟨ad, hA, y0, y1, y2⟩ := at_T93 HR.out k (by omega) (by omega)
          subst hA
          replace y0 := (HB.out.cell (World.block_lt_of_cell? w _ y0)).trans y0
          replace y1 := (HB.out.cell (World.block_lt_of_cell? w _ y1)).trans y1
          replace y2 := (HB.out.cell (World.block_lt_of_cell? w _ y2)).trans y2
          simp only [Int.toNat_natCast] at y0 y1 y2
          have HD := Aside0.mk (show rightD (rd_T93 l0_6 k) = true from List.all_eq_true.1 HAL.out _ (by unfold rd_T93; rw [Int.toNat_natCast, List.getD_eq_getElem?_getD, List.getElem?_eq_getElem hlt]; exact List.getElem_mem hlt))
          have HWD := Aside0.mk (word_f _ _ HD.out)
          have HNr := Aside0.mk HBd.out.lt
          go_wp2_with (fail)
          refine (call_Text.calls (rd_T93 l0_6 k).f0.f0 (rd_T93 l0_6 k).f0.f1 _ _ HWD.out.1).mono ?_
          rintro e w4 ⟨rfl, hb⟩
          have hbA : Below wr.heap.size wr w4 := below_then ((Below.refl _ _).alloc (Nat.le_refl _) _) (by simp) hb
          have HD4 := Aside0.mk ((hb.block wr.heap.size (by simp)).trans (heap_alloc_new wr _))
          have HBd4 := Aside0.mk (BuilderAt_below HBd.out hbA)
          have HK4 := Aside0.mk ((hbA.block w.heap.size (Nat.lt_of_lt_of_le HG.out HZ.out)).trans HK.out)
          have HB4 := Aside0.mk (below_then HB.out HB.out.size hbA)
          have HZ4 := Aside0.mk (Nat.le_trans HZ.out hbA.size)
          clear HBd HK HB hb hbA x6 y0 y1 y2
          have h44 : (⟨#[44]⟩ : ByteArray).size = 1 := rfl
          have hw1 : 1 + (wordS (rd_T93 l0_6 k).f0.f0 (rd_T93 l0_6 k).f0.f1).size ≤ 9223372036854775807 := by have := HWD.out.2; omega
          go_wp2_with (fail)
          refine (writeString w1.heap.size w1.heap.size (Lib.byteCells X) _ _ (Or.inr HBd4.out) (by have := HWD.out.2; have := HXk.out; have := HL.out; rw [Lib.byteCells_length, ByteArray.size_append]; omega) HZ4.out).mono ?_
          rintro e w5 ⟨rfl, hbd, hb, hkp⟩
          have HBd5 := Aside0.mk hbd
          have HD5 := Aside0.mk (hkp wr.heap.size _ _ (by have := HNr.out; omega) (by decide) HD4.out)
          have HK5 := Aside0.mk ((hb.block w.heap.size HG.out).trans HK4.out)
          have HB5 := Aside0.mk (below_two HB4.out (Nat.le_of_lt HG.out) hb)
          have HZ5 := Aside0.mk (Nat.le_trans HZ4.out hb.size)
          clear HBd4 HD4 HK4 HB4 HZ4 hbd hb hkp
          have x6 : w5.cell? ⟨w.heap.size, 6, none⟩ = some (.slice (some ad) l0_6.length c0_6) := blk_cell HK5.out 6
          have d2 : w5.cell? ⟨wr.heap.size, 2, none⟩ = some (.bool (rd_T93 l0_6 k).f1) := blk_cell HD5.out 2
          have HX5 := Aside0.mk (show Lib.byteCells X ++ Lib.strCells ((⟨#[44]⟩ : ByteArray) ++ wordS (rd_T93 l0_6 k).f0.f0 (rd_T93 l0_6 k).f0.f1) = Lib.byteCells (X ++ 44 :: (wordS (rd_T93 l0_6 k).f0.f0 (rd_T93 l0_6 k).f0.f1).data.toList) by
            rw [Lib.strCells_eq]; simp [Lib.byteCells])
          rw [HX5.out] at HBd5
          have HT5 : ∀ q : List UInt8, (if (rd_T93 l0_6 k).f1 = true ∧ (match l0_6.drop (k + 1) with | [] => true | e :: _ => !e.f1) = true then [42] else []) = q → (X ++ 44 :: (wordS (rd_T93 l0_6 k).f0.f0 (rd_T93 l0_6 k).f0.f1).data.toList ++ q) ++ digT (l0_6.drop (k + 1)) = pathT a0_0 a0_1 a0_2 a0_3 l0_6 := by
            intro q hq
            rw [← HT.out, drop_T93 l0_6 k hlt]
            conv => rhs; unfold digT
            rw [hq]
            simp
          have HT5 := Aside0.mk HT5
          have HX5l := Aside0.mk (show (X ++ 44 :: (wordS (rd_T93 l0_6 k).f0.f0 (rd_T93 l0_6 k).f0.f1).data.toList).length ≤ 20 + 12 * k + 10 by
            have h1 := HXk.out; have h2 := HWD.out.2
            simp only [List.length_append, List.length_cons, Array.length_toList]
            have h3 : (wordS (rd_T93 l0_6 k).f0.f0 (rd_T93 l0_6 k).f0.f1).data.size = (wordS (rd_T93 l0_6 k).f0.f0 (rd_T93 l0_6 k).f0.f1).size := rfl
            omega)
          clear HT HX5 HXk
          generalize hXX : X ++ 44 :: (wordS (rd_T93 l0_6 k).f0.f0 (rd_T93 l0_6 k).f0.f1).data.toList = X5 at HBd5 HT5 HX5l
          clear hXX
          have hwr : wrap64 ((k : Int) + 1) = ((k + 1 : Nat) : Int) := by have := HL.out; unfold wrap64; omega
          cases hf : (rd_T93 l0_6 k).f1 with
          | false =>
            have HQ := Aside0.mk (HT5.out [] (by rw [hf, if_neg (by simp)]))
            clear HT5
            rw [hf] at d2
            go_wp2_with (fail)
            rw [hwr]
            exact ⟨⟨k + 1, X5, by omega, rfl, ⟨by simpa using HQ.out⟩, ⟨by have := HX5l.out; omega⟩, HBd5, HK5, HB5, HZ5⟩, by simp only [intOf]; omega⟩
          | true =>
            rw [hf] at d2
            have hstar : ∀ W : World, Lib.BuilderAt 106 5 w1.heap.size w1.heap.size (.pointer (some ⟨w1.heap.size, 0, none⟩)) (Lib.byteCells X5) W → w1.heap.size ≤ W.heap.size → Calls Tryd.prog 66 #[.pointer (some ⟨w1.heap.size, 0, none⟩), .string ⟨#[42]⟩] W fun e w' => e = .returned (.tuple #[.int .i64 1, .nilIface]) ∧ (Lib.BuilderAt 106 5 w1.heap.size w1.heap.size (.pointer (some ⟨w1.heap.size, 0, none⟩)) (Lib.byteCells (X5 ++ [42])) w' ∧ Below w1.heap.size W w') := fun W g1 g2 =>
              (writeString w1.heap.size w1.heap.size _ ⟨#[42]⟩ W (Or.inr g1) (by have := HX5l.out; have := HL.out; rw [Lib.byteCells_length]; have h42 : (⟨#[42]⟩ : ByteArray).size = 1 := rfl; omega) g2).mono fun e w' h => ⟨h.1, by have := h.2.1; rw [Lib.strCells_eq] at this; simpa [Lib.byteCells] using this, h.2.2.1⟩
            by_cases hlast : k + 1 = l0_6.length
            · have HQ := Aside0.mk (HT5.out [42] (by rw [hf, List.drop_eq_nil_of_le (by omega)]; rfl))
              clear HT5
              have hcmp : ((k : Int) == wrap64 ((l0_6.length : Int) - 1)) = true := by have := HL.out; rw [beq_iff_eq]; unfold wrap64; omega
              go_wp2_with (fail)
              refine (hstar _ HBd5.out HZ5.out).mono ?_
              rintro e w6 ⟨rfl, hbd, hb⟩
              go_wp2_with (fail)
              rw [hwr]
              exact ⟨⟨k + 1, X5 ++ [42], by omega, rfl, HQ, ⟨by rw [List.length_append]; have := HX5l.out; simp only [List.length_cons, List.length_nil]; omega⟩, ⟨hbd⟩, ⟨(hb.block w.heap.size HG.out).trans HK5.out⟩, ⟨below_two HB5.out (Nat.le_of_lt HG.out) hb⟩, ⟨Nat.le_trans HZ5.out hb.size⟩⟩, by simp only [intOf]; omega⟩
            · have hk1 : k + 1 < l0_6.length := by omega
              obtain ⟨ad', hA', z0, z1, z2⟩ := at_T93 HR.out ((k + 1 : Nat) : Int) (by omega) (by omega)
              cases hA'
              replace z2 := (HB5.out.cell (World.block_lt_of_cell? w _ z2)).trans z2
              simp only [Int.toNat_natCast] at z2
              clear z0 z1
              have hcmp : ((k : Int) == wrap64 ((l0_6.length : Int) - 1)) = false := by have := HL.out; rw [beq_eq_false_iff_ne]; unfold wrap64; omega
              have hi0 : 0 ≤ ((k + 1 : Nat) : Int) := by omega
              have hi1 : ((k + 1 : Nat) : Int) < (l0_6.length : Int) := by omega
              cases hg : (rd_T93 l0_6 ((k + 1 : Nat) : Int)).f1 with
              | true =>
                have HQ := Aside0.mk (HT5.out [] (by rw [hf, drop_T93 l0_6 (k + 1) hk1]; show (if true = true ∧ (!(rd_T93 l0_6 ((k + 1 : Nat) : Int)).f1) = true then _ else _) = _; rw [hg]; rfl))
                clear HT5
                rw [hg] at z2
                go_wp2_with (fail)
                rw [hwr]
                exact ⟨⟨k + 1, X5, by omega, rfl, ⟨by simpa using HQ.out⟩, ⟨by have := HX5l.out; omega⟩, HBd5, HK5, HB5, HZ5⟩, by simp only [intOf]; omega⟩
              | false =>
                have HQ := Aside0.mk (HT5.out [42] (by rw [hf, drop_T93 l0_6 (k + 1) hk1]; show (if true = true ∧ (!(rd_T93 l0_6 ((k + 1 : Nat) : Int)).f1) = true then _ else _) = _; rw [hg]; rfl))
                clear HT5
                rw [hg] at z2
                go_wp2_with (fail)
                refine (hstar _ HBd5.out HZ5.out).mono ?_
                rintro e w6 ⟨rfl, hbd, hb⟩
                go_wp2_with (fail)
                rw [hwr]
                exact ⟨⟨k + 1, X5 ++ [42], by omega, rfl, HQ, ⟨by rw [List.length_append]; have := HX5l.out; simp only [List.length_cons, List.length_nil]; omega⟩, ⟨hbd⟩, ⟨(hb.block w.heap.size HG.out).trans HK5.out⟩, ⟨below_two HB5.out (Nat.le_of_lt HG.out) hb⟩, ⟨Nat.le_trans HZ5.out hb.size⟩⟩, by simp only [intOf]; omega⟩
        · obtain rfl : k = l0_6.length := by omega
          go_wp2_with (fail)
          have HXe := Aside0.mk (show pathT a0_0 a0_1 a0_2 a0_3 l0_6 = X by rw [← HT.out, List.drop_length]; simp [digT])
          refine (Tryd.Builder_String_any w1.heap.size w1.heap.size X _ (Or.inr HBd.out) HZ.out).mono ?_
          rintro e w9 ⟨rfl, hb⟩
          go_wp2_with (fail)
          go_ret
          exact ⟨by rw [HXe.out]; rfl, below_two HB.out (Nat.le_of_lt HG.out) hb⟩
end Go.Proofs.YtpmieapgbdbabaaDoor.QAll
end

section
/- slices.Backward of digipeaters: the iterator's contract: the last one first, each with its place. -/
set_option linter.unusedVariables false
set_option linter.unusedSimpArgs false
namespace Go.Proofs.YtpmieapgbdbabaaDoor.QAll
open Go.RowKit Go.Shelf Go.Proofs.YtpmieapgbdbabaaDoorW.PrintWords Go.Proofs.YtpmieapgbdbabaaDoorW.PrintLast Go.Proofs.YtpmieapgbdbabaaDoorW.PrintMore
attribute [local go_sem] Oper.semAt_some

/-- What has come when k rounds are over. -/
def backF (L : List S93) (j : Nat) : Nat × S93 := (L.length - 1 - j, rd_T93 L ((L.length - 1 - j : Nat) : Int))
def backK (L : List S93) (k : Nat) : List (Nat × S93) := (List.range k).map (backF L)
theorem backK_succ (L : List S93) (k : Nat) : backK L (k + 1) = backK L k ++ [backF L k] := by simp [backK, List.range_succ]
theorem backK_length (L : List S93) (k : Nat) : (backK L k).length = k := by simp [backK]
def encB (x : Nat × S93) : Array Value := #[.int .i64 (x.1 : Int), .agg #[.string x.2.f0.f0, .int .i64 x.2.f0.f1, .bool x.2.f1]]
/-- What a round keeps: what lay below n₀, and the box Bs. -/
def KpB (n₀ Bs : Nat) (W W' : World) : Prop := Below n₀ W W' ∧ ∀ cs t, W.heap[Bs]? = some (.cells cs t (0, 0)) → W'.heap[Bs]? = some (.cells cs t (0, 0))
theorem KpB.refl (n₀ Bs : Nat) (W : World) : KpB n₀ Bs W W := ⟨Below.refl _ _, fun _ _ h => h⟩
theorem KpB.trans {n₀ Bs : Nat} {A B C : World} (h : KpB n₀ Bs A B) (h' : KpB n₀ Bs B C) : KpB n₀ Bs A C := ⟨h.1.trans h'.1, fun cs t e => h'.2 cs t (h.2 cs t e)⟩
set_option maxRecDepth 100000 in
set_option maxHeartbeats 2000000 in
theorem back1_in (F : Fence) (n : Nat) (h89 : F.fn 89) (hro : F.round = none) (hn : 1 ≤ n) (l Bs c : Nat) (A : Option Addr) (L : List S93) (hL : L.length ≤ 1000000) (w : World) (hC : Kd.C k93 w A L.length L) (J Jx : List (Nat × S93) → World → Prop)
    (hY : ∀ pre x W, J pre W → pre.length < L.length → YieldAt F (n - 1) Tryd.prog l (encB x) W fun e W' =>
      (e = .returned (.bool true) ∧ J (pre ++ [x]) W' ∧ KpB w.heap.size Bs W W') ∨ (e = .returned (.bool false) ∧ Jx (pre ++ [x]) W'))
    (W : World) (hW0 : Below w.heap.size w W) (hBs : W.heap[Bs]? = some (.cells #[.slice A L.length c] 24 (0, 0))) (h0 : J [] W) :
    CallsIn F n Tryd.prog 89 #[.func (.yield l) #[] #[], .pointer (some ⟨Bs, 0, none⟩)] W fun e W' => (∃ v, e = .returned v) ∧
      ((∃ ys, ys = backK L L.length ∧ J ys W') ∨ (∃ pre, (∃ k, k ≤ L.length ∧ pre = backK L k) ∧ Jx pre W')) := by
  refine callsIn_of_wp Tryd.func89 rfl h89 ?_ hro
  simp only [Tryd.ntmps89, List.size_toArray, List.length_cons, List.length_nil, Nat.reduceAdd, Nat.reduceSub, Array.replicate_succ, Array.replicate_zero, List.push_toArray, List.append_toArray, List.nil_append, List.cons_append]
  have HC := Aside0.mk hC
  have hu93 := Tryd.underlying93
  have hu23 := Tryd.underlying23
  have HBs := Aside0.mk hBs
  have hb0 : W.cell? ⟨Bs, 0, none⟩ = some (.slice A L.length c) := blk_cell hBs 0
  have hw1 : wrap64 ((L.length : Int) - 1) = (L.length : Int) - 1 := by unfold wrap64; omega
  clear hBs
  gi_wp2
  clear hb0 hw1
  gi_loopw [3] (fun i wr => ∃ k : Nat, k ≤ L.length ∧ i = .int .i64 ((L.length : Int) - 1 - k) ∧ J (backK L k) wr ∧ KpB w.heap.size Bs W wr) (fun i _ => (intOf i + 1).toNat)
  case atStart => exact ⟨0, Nat.zero_le _, by first | rfl | (congr 1; omega) | (congr 1), h0, KpB.refl _ _ _⟩
  case round =>
    obtain ⟨k, hk, rfl, hJs, hnx⟩ := hrel
    have hb1 : wr.cell? ⟨Bs, 0, none⟩ = some (.slice A L.length c) := blk_cell (hnx.2 _ _ HBs.out) 0
    by_cases hlt : k < L.length
    · obtain ⟨ad, rfl, x0, x1, x2⟩ := at_T93 HC.out ((L.length - 1 - k : Nat) : Int) (by omega) (by omega)
      have hB := hW0.trans hnx.1
      replace x0 := (hB.cell (World.block_lt_of_cell? w _ x0)).trans x0
      replace x1 := (hB.cell (World.block_lt_of_cell? w _ x1)).trans x1
      replace x2 := (hB.cell (World.block_lt_of_cell? w _ x2)).trans x2
      simp only [Int.toNat_natCast] at x0 x1 x2
      have hidx : (L.length : Int) - 1 - k = ((L.length - 1 - k : Nat) : Int) := by omega
      rw [hidx]
      obtain ⟨fn, tmps, assign, body, hy, hR⟩ := hY _ (backF L k) wr hJs (by rw [backK_length]; exact hlt)
      dsimp only [encB, backF] at hy
      have hge : (0 : Int) ≤ ((L.length - 1 - k : Nat) : Int) := by omega
      have hlt2 : ((L.length - 1 - k : Nat) : Int) < (L.length : Int) := by omega
      gi_wp2
      refine hR.mono ?_
      rintro e W3 (⟨rfl, hJ3, hk3⟩ | ⟨rfl, hJx3⟩)
      · gi_wp2
        go_roundw
        case rel => exact ⟨k + 1, by omega, by congr 1; omega, by rw [backK_succ]; exact hJ3, hnx.trans hk3⟩
        case measure => first | (simp [intOf]; done) | (simp [intOf]; omega)
      · gi_wp2
        refine bodyPost_ret (results_none rfl _ _ _) rfl ?_
        exact ⟨⟨_, rfl⟩, .inr ⟨_, ⟨k + 1, by omega, (backK_succ _ _).symm⟩, hJx3⟩⟩
    · obtain rfl : k = L.length := by omega
      have hm : (L.length : Int) - 1 - L.length = -1 := by omega
      rw [hm]
      gi_wp2
      go_end0
      exact ⟨⟨_, rfl⟩, .inl ⟨_, rfl, hJs⟩⟩
end Go.Proofs.YtpmieapgbdbabaaDoor.QAll
end

section
/- Walks, written by a program of this session (wip/pp): a Go function comes to what the Lean function beside it tells. -/
namespace Go.Proofs.YtpmieapgbdbabaaDoor.QAll
open Go.RowKit Go.Proofs.YtpmieapgbdbabaaDoorW.PrintWords Go.Proofs.YtpmieapgbdbabaaDoorW.PrintLast Go.Proofs.YtpmieapgbdbabaaDoorW.PrintMore
attribute [local go_sem] max2_int min2_int max_two min_two max_three min_three max_four min_four
set_option linter.unusedVariables false
set_option linter.unusedSimpArgs false

def call_bit.f (a0 : Bool) (a1 : Int) : Option (Int) := if a0 = true then (some a1) else (some 0)
end Go.Proofs.YtpmieapgbdbabaaDoor.QAll
end

section
/- call.Put, walked by hand: the seven bytes of a right call, or none and ErrCall, for every call. -/
set_option linter.unusedVariables false
set_option linter.unusedSimpArgs false
namespace Go.Proofs.YtpmieapgbdbabaaDoor.QAll
open Go.RowKit Go.Proofs.YtpmieapgbdbabaaDoorW.PrintWords Go.Proofs.YtpmieapgbdbabaaDoorW.PrintLast Go.Proofs.YtpmieapgbdbabaaDoorW.PrintMore

/-- The i-th letter's byte. -/
def putAt (s : ByteArray) (i : Nat) : Int := if i < s.size then bt s i * 2 else 64
/-- The last byte. -/
def putEnd (n : Int) (mark last : Bool) : Int := (if mark = true then 128 else 0) + 96 + 2 * n + (if last = true then 1 else 0)
def putL (s : ByteArray) (n : Int) (mark last : Bool) : List Int := [putAt s 0, putAt s 1, putAt s 2, putAt s 3, putAt s 4, putAt s 5, putEnd n mark last]
def call_Put.f (a0_0 : ByteArray) (a0_1 : Int) (a1 a2 : Bool) : Option (ByteArray × Int) :=
  if a0_0.size ≤ 9223372036854775807 then (if rightB a0_0 a0_1 = true then some (strOfNums (putL a0_0 a0_1 a1 a2), 0) else some (⟨#[]⟩, 12)) else none

/-- Behind k rounds: the array in block B. -/
def PutAt (s : ByteArray) (B k : Nat) (w : World) : Prop := ∃ cur, w.heap[B]? = some (.cells cur 128 (0, 0)) ∧ cur.size = 7 ∧ ∀ j : Nat, j < k → cur[j]? = some (.int .u8 (putAt s j))
theorem PutAt.cell {s : ByteArray} {B k : Nat} {w : World} (h : PutAt s B k w) (j : Nat) (hj : j < 7) : ∃ v, w.cell? ⟨B, j, none⟩ = some v := by
  obtain ⟨cur, hb, hm, hc⟩ := h
  simp only [World.cell?, hb]
  exact ⟨cur[j]'(by omega), Array.getElem?_eq_getElem (by omega)⟩
theorem PutAt.frozen {s : ByteArray} {B k : Nat} {w : World} (h : PutAt s B k w) (j : Nat) : w.frozen? ⟨B, j, none⟩ = false := by
  obtain ⟨cur, hb, hm, hc⟩ := h
  simp [World.frozen?, hb]
theorem PutAt.set {s : ByteArray} {B k : Nat} {w : World} (h : PutAt s B k w) (x : Value) : PutAt s B k (w.setCell ⟨B, k, none⟩ x) := by
  obtain ⟨cur, hb, hm, hc⟩ := h
  refine ⟨cur.setIfInBounds k x, ?_, by simpa using hm, fun j hj => ?_⟩
  · simp [World.setCell, Array.getElem?_modify, hb]
  · rw [Array.getElem?_setIfInBounds, if_neg (by omega), hc j hj]
theorem PutAt.drew {s : ByteArray} {B k : Nat} {w : World} (h : PutAt s B k w) : PutAt s B k w.drew := h
end Go.Proofs.YtpmieapgbdbabaaDoor.QAll
end

section
/- call.upper, walked by hand: a word with its small letters made great, for every word. -/
set_option linter.unusedVariables false
set_option linter.unusedSimpArgs false
namespace Go.Proofs.YtpmieapgbdbabaaDoor.QAll
open Go.RowKit Go.Proofs.YtpmieapgbdbabaaDoorW.PrintWords Go.Proofs.YtpmieapgbdbabaaDoorW.PrintLast Go.Proofs.YtpmieapgbdbabaaDoorW.PrintMore

/-- A small letter made great. -/
def upI (c : Int) : Int := if 97 ≤ c ∧ c ≤ 122 then c - 97 + 65 else c
def upL (s : ByteArray) : List Int := (bytesOf s).map upI
def upperS (s : ByteArray) : ByteArray := strOfNums (upL s)
def call_upper.f (a0 : ByteArray) : Option ByteArray := if a0.size ≤ 9223372036854775807 then some (upperS a0) else none
/-- Behind k rounds: block B holds the first k made great, the others as they were. -/
def UpAt (s : ByteArray) (B k : Nat) (w : World) : Prop := ∃ cur m, w.heap[B]? = some (.cells cur 5 (m, m + 1)) ∧ s.size ≤ m ∧
  ∀ j : Nat, j < s.size → cur[j]? = some (.int .u8 (if j < k then upI (bt s j) else bt s j))
theorem UpAt.cell {s : ByteArray} {B k : Nat} {w : World} (h : UpAt s B k w) (j : Nat) (hj : j < s.size) : w.cell? ⟨B, j, none⟩ = some (.int .u8 (if j < k then upI (bt s j) else bt s j)) := by
  obtain ⟨cur, m, hb, hm, hc⟩ := h
  simp only [World.cell?, hb]
  exact hc j hj
theorem UpAt.frozen {s : ByteArray} {B k : Nat} {w : World} (h : UpAt s B k w) (j : Nat) (hj : j < s.size) : w.frozen? ⟨B, j, none⟩ = false := by
  obtain ⟨cur, m, hb, hm, hc⟩ := h
  simp only [World.frozen?, hb]
  simp
  omega
end Go.Proofs.YtpmieapgbdbabaaDoor.QAll
end

section
/- strings.Cut at a separator of one byte, walked by hand over the shelf's contract of Index: what stands ahead of the first such byte, and behind it, for every text. -/
set_option linter.unusedVariables false
set_option linter.unusedSimpArgs false
namespace Go.Proofs.YtpmieapgbdbabaaDoor.QAll
open Go.RowKit Go.Proofs.YtpmieapgbdbabaaDoorW.PrintWords Go.Proofs.YtpmieapgbdbabaaDoorW.PrintLast Go.Proofs.YtpmieapgbdbabaaDoorW.PrintMore

/-- Where the first byte c stands; the length, if there is none. -/
def idxOf (s : ByteArray) (c : UInt8) : Nat := (Lib.indexByte s.data.toList c).toNat
def cutHas (s : ByteArray) (c : UInt8) : Bool := decide (0 ≤ Lib.indexByte s.data.toList c)
def cutA (s : ByteArray) (c : UInt8) : ByteArray := if cutHas s c = true then s.extract 0 (idxOf s c) else s
def cutB (s : ByteArray) (c : UInt8) : ByteArray := if cutHas s c = true then s.extract (idxOf s c + 1) s.size else ⟨#[]⟩

end Go.Proofs.YtpmieapgbdbabaaDoor.QAll
end

section
/- What the walks ask of the package's variables (the two errors of strconv, its table of powers, the search's limit), and that it holds on while nothing that was there is written. -/
set_option linter.unusedVariables false
namespace Go.Proofs.YtpmieapgbdbabaaDoor.QAll
open Go.RowKit Go.Proofs.YtpmieapgbdbabaaDoorW.PrintWords Go.Proofs.YtpmieapgbdbabaaDoorW.PrintLast Go.Proofs.YtpmieapgbdbabaaDoorW.PrintMore
structure EnvW (w : World) : Prop where
  mx : ∃ m, w.cell? ⟨0, 0, none⟩ = some (.int .i64 m)
  syn : ∃ ev, w.cell? ⟨1, 0, none⟩ = some ev ∧ (ev = .nilIface ∨ ∃ te pe, ev = .iface te pe)
  rng : ∃ ev, w.cell? ⟨2, 0, none⟩ = some ev ∧ (ev = .nilIface ∨ ∃ te pe, ev = .iface te pe)
  tab : Lib.TabIs Tryd.prog w "internal/strconv.uint64pow10" .u64 Lib.pow10Tab
theorem EnvW.below {w w' : World} (h : EnvW w) (hb : Below w.heap.size w w') : EnvW w' := by
  obtain ⟨⟨m, hm⟩, ⟨ev, hs, hs2⟩, ⟨ev2, hr, hr2⟩, ht⟩ := h
  refine ⟨⟨m, pw_cell_below hb hm⟩, ⟨ev, pw_cell_below hb hs, hs2⟩, ⟨ev2, pw_cell_below hb hr, hr2⟩, ?_⟩
  unfold Lib.TabIs World.var? at ht ⊢
  cases hg : Tryd.prog.globalNamed "internal/strconv.uint64pow10" with
  | none => simp [hg] at ht
  | some g =>
    simp only [hg, Option.bind_some] at ht ⊢
    have hlt : g < w.heap.size := by
      rcases Nat.lt_or_ge g w.heap.size with h' | h'
      · exact h'
      · simp [Array.getElem?_eq_none h'] at ht
    rw [hb.block g hlt]
    exact ht
end Go.Proofs.YtpmieapgbdbabaaDoor.QAll
end

section
/- call.Parse, walked by hand: the call of a word, or none and ErrCall, for every word. -/
set_option linter.unusedVariables false
set_option linter.unusedSimpArgs false
namespace Go.Proofs.YtpmieapgbdbabaaDoor.QAll
open Go.RowKit Go.Proofs.YtpmieapgbdbabaaDoorW.PrintWords Go.Proofs.YtpmieapgbdbabaaDoorW.PrintLast Go.Proofs.YtpmieapgbdbabaaDoorW.PrintMore

/-- The number behind the dash; none, if there is none so written. -/
def numOf (s : ByteArray) : Option Int := match Lib.atoiAll s.data.toList with
  | .ok v => if Lib.itoa v = s.data.toList then some v else none
  | _ => none
/-- What Parse tells. -/
def parseS (s : ByteArray) : ByteArray × Int × Int :=
  if cutHas (upperS s) 45 = true then
    match numOf (cutB (upperS s) 45) with
    | some v => if rightB (cutA (upperS s) 45) v = true then (cutA (upperS s) 45, v, 0) else (⟨#[]⟩, 0, 12)
    | none => (⟨#[]⟩, 0, 12)
  else if rightB (cutA (upperS s) 45) 0 = true then (cutA (upperS s) 45, 0, 0) else (⟨#[]⟩, 0, 12)
def call_Parse.f (a0 : ByteArray) : Option (ByteArray × Int × Int) := if a0.size ≤ 281474976710656 then some (parseS a0) else none

end Go.Proofs.YtpmieapgbdbabaaDoor.QAll
end

section
/- call.Get, walked by hand: the call of seven bytes, its marks, or none, for every text. -/
set_option linter.unusedVariables false
set_option linter.unusedSimpArgs false
namespace Go.Proofs.YtpmieapgbdbabaaDoor.QAll
open Go.RowKit Go.Proofs.YtpmieapgbdbabaaDoorW.PrintWords Go.Proofs.YtpmieapgbdbabaaDoorW.PrintLast Go.Proofs.YtpmieapgbdbabaaDoorW.PrintMore

def halfL (s : ByteArray) (k : Nat) : List Int := (List.range k).map fun j : Nat => bt s (j : Int) / 2
def getBase (s : ByteArray) : ByteArray := ⟨(Lib.trimRightB (strOfNums (halfL s 6)).data.toList 32).toArray⟩
/-- What Get tells. -/
def getS (s : ByteArray) : ByteArray × Int × Bool × Bool × Int :=
  if s.size < 7 then (⟨#[]⟩, 0, false, false, 4) else if 7 < s.size then (⟨#[]⟩, 0, false, false, 5)
  else if rightB (getBase s) (bt s 6 / 2 % 16) = true ∧ strOfNums (putL (getBase s) (bt s 6 / 2 % 16) (decide (128 ≤ bt s 6)) (decide (bt s 6 % 2 = 1))) = s
    then (getBase s, bt s 6 / 2 % 16, decide (128 ≤ bt s 6), decide (bt s 6 % 2 = 1), 0)
  else (⟨#[]⟩, 0, false, false, 2)
def call_Get.f (a0 : ByteArray) : Option (ByteArray × Int × Bool × Bool × Int) := if a0.size ≤ 9223372036854775807 then some (getS a0) else none

end Go.Proofs.YtpmieapgbdbabaaDoor.QAll
end

section
/- path.Get, walked by hand: the path with whose bytes a text begins, or none. -/
set_option linter.unusedVariables false
set_option linter.unusedSimpArgs false
namespace Go.Proofs.YtpmieapgbdbabaaDoor.QAll
open Go.RowKit Go.Proofs.YtpmieapgbdbabaaDoorW.PrintWords Go.Proofs.YtpmieapgbdbabaaDoorW.PrintLast Go.Proofs.YtpmieapgbdbabaaDoorW.PrintMore

theorem below_two_ {B B' : Nat} {w W w' : World} (h1 : Below B w W) (h : B ≤ B') (h2 : Below B' W w') : Below B w w' :=
  ⟨h2.os.trans h1.os, h2.tape.trans h1.tape, h2.output.trans h1.output, Nat.le_trans h1.size h2.size, fun k hk => (h2.block k (Nat.lt_of_lt_of_le hk h)).trans (h1.block k hk)⟩
theorem seven_set {w : World} {g : Nat} {a0 a1 a2 a3 a4 a5 a6 x0 x1 x2 x3 x4 x5 x6 : Value} {t : TypeId} (h : w.heap[g]? = some (.cells #[a0, a1, a2, a3, a4, a5, a6] t (0, 0))) :
    (((((((w.setCell ⟨g, 0, none⟩ x0).setCell ⟨g, 1, none⟩ x1).setCell ⟨g, 2, none⟩ x2).setCell ⟨g, 3, none⟩ x3).setCell ⟨g, 4, none⟩ x4).setCell ⟨g, 5, none⟩ x5).setCell ⟨g, 6, none⟩ x6).heap[g]? = some (.cells #[x0, x1, x2, x3, x4, x5, x6] t (0, 0)) := by
  simp [World.setCell, Array.getElem?_modify, h]
theorem seven_below {n : Nat} {w W : World} {g : Nat} (h : Below n w W) (hg : n ≤ g) (x0 x1 x2 x3 x4 x5 x6 : Value) :
    Below n w (((((((W.setCell ⟨g, 0, none⟩ x0).setCell ⟨g, 1, none⟩ x1).setCell ⟨g, 2, none⟩ x2).setCell ⟨g, 3, none⟩ x3).setCell ⟨g, 4, none⟩ x4).setCell ⟨g, 5, none⟩ x5).setCell ⟨g, 6, none⟩ x6) :=
  ((((((h.setCell hg _).setCell hg _).setCell hg _).setCell hg _).setCell hg _).setCell hg _).setCell hg _
theorem seven_cell {w : World} {g : Nat} {a0 a1 a2 a3 a4 a5 a6 : Value} {t : TypeId} (h : w.heap[g]? = some (.cells #[a0, a1, a2, a3, a4, a5, a6] t (0, 0))) :
    (w.cell? ⟨g, 0, none⟩ = some a0 ∧ w.cell? ⟨g, 1, none⟩ = some a1 ∧ w.cell? ⟨g, 2, none⟩ = some a2 ∧ w.cell? ⟨g, 3, none⟩ = some a3 ∧ w.cell? ⟨g, 4, none⟩ = some a4 ∧ w.cell? ⟨g, 5, none⟩ = some a5 ∧ w.cell? ⟨g, 6, none⟩ = some a6) ∧
    (w.frozen? ⟨g, 0, none⟩ = false ∧ w.frozen? ⟨g, 1, none⟩ = false ∧ w.frozen? ⟨g, 2, none⟩ = false ∧ w.frozen? ⟨g, 3, none⟩ = false ∧ w.frozen? ⟨g, 4, none⟩ = false ∧ w.frozen? ⟨g, 5, none⟩ = false ∧ w.frozen? ⟨g, 6, none⟩ = false) := by
  simp [World.cell?, World.frozen?, h]
def RdOk (w w' : World) : Prop := ∀ a v, w.cell? a = some v → w'.cell? a = some v
/-- The entry that begins at the k-th seven bytes. -/
def pgT (s : ByteArray) (k : Nat) : ByteArray := s.extract (7 * k) (7 * k + 7)
def pgE (s : ByteArray) (k : Nat) : S93 := ⟨⟨(getS (pgT s k)).1, (getS (pgT s k)).2.1⟩, (getS (pgT s k)).2.2.1⟩
/-- What is told behind k entries, which are l. -/
def pgFrom (s : ByteArray) : Nat → Nat → List S93 → Nat × List S93 × Int
  | 0, _, _ => (0, [], 11)
  | f + 1, k, l =>
    if s.size < 7 * k + 7 then (0, [], 4)
    else if (getS (pgT s k)).2.2.2.2 ≠ 0 then (0, [], 2)
    else if k = 10 then (0, [], 11)
    else if (getS (pgT s k)).2.2.2.1 = false then pgFrom s f (k + 1) (l ++ [pgE s k])
    else if k = 0 then (0, [], 2)
    else if ordB ((l ++ [pgE s k]).drop 2) = true then (7 * k + 7, l ++ [pgE s k], 0) else (0, [], 11)
def pgS (s : ByteArray) : Nat × List S93 × Int := pgFrom s 11 0 []
def path_Get.f (a0 : ByteArray) : Option (ByteArray × Int × ByteArray × Int × Bool × Bool × List S93 × Int × Int) :=
  if a0.size ≤ 1000000 then some ((rd_T93 (pgS a0).2.1 0).f0.f0, (rd_T93 (pgS a0).2.1 0).f0.f1, (rd_T93 (pgS a0).2.1 1).f0.f0, (rd_T93 (pgS a0).2.1 1).f0.f1, (rd_T93 (pgS a0).2.1 0).f1, (rd_T93 (pgS a0).2.1 1).f1, (pgS a0).2.1.drop 2, ((pgS a0).1 : Int), (pgS a0).2.2) else none
end Go.Proofs.YtpmieapgbdbabaaDoor.QAll
end

section
/- path.Back, walked by hand: the way back: from and to changed, the digipeaters the other way round, unmarked. -/
set_option linter.unusedVariables false
set_option linter.unusedSimpArgs false
namespace Go.Proofs.YtpmieapgbdbabaaDoor.QAll
open Go.RowKit Go.Shelf Go.Proofs.YtpmieapgbdbabaaDoorW.PrintWords Go.Proofs.YtpmieapgbdbabaaDoorW.PrintLast Go.Proofs.YtpmieapgbdbabaaDoorW.PrintMore
attribute [local go_sem] Oper.semAt_some

def un0 (d : S93) : S93 := ⟨d.f0, false⟩
def bOf (xs : List (Nat × S93)) : List S93 := xs.map fun x => un0 x.2
theorem back_stops (n : Nat) (hn : 1 ≤ n) (Bs c : Nat) (A : Option Addr) (L : List S93) (hL : L.length ≤ 1000000) (w w0 : World) (hC : Kd.C k93 w A L.length L) (hw0 : Below w.heap.size w w0) (hBs : w0.heap[Bs]? = some (.cells #[.slice A L.length c] 24 (0, 0))) :
    SeqStopsK Fence.wide n Tryd.prog 89 #[.pointer (some ⟨Bs, 0, none⟩)] encB (KpB w.heap.size Bs) (fun ys => ys = backK L L.length) (fun pre => ∃ k, k ≤ L.length ∧ pre = backK L k) L.length w0 := fun l J Jx W hW _ _ hY h0 => by
  have hlt : Bs < w0.heap.size := (Array.getElem?_eq_some_iff.1 hBs).1
  exact back1_in Fence.wide n trivial rfl hn l Bs c A L hL w hC J Jx hY W (below_two_ hw0 hw0.size hW) ((hW.block Bs hlt).trans hBs) h0
set_option maxRecDepth 100000 in
set_option maxHeartbeats 1000000 in
theorem backw_in (F : Fence) (n : Nat) (h60 : F.fn 60) (hro : F.round = none) (a : Option Addr) (len cap : Nat) (w : World) :
    CallsIn F n Tryd.prog 60 #[.slice a len cap] w fun e w' => e = .returned (.func (.func 89) #[] #[.pointer (some ⟨w.heap.size, 0, none⟩)]) ∧ w' = w.alloc (.cells #[.slice a len cap] 24) := by
  refine callsIn_of_wp Tryd.func60 rfl h60 ?_ hro
  simp only [Tryd.ntmps60, List.size_toArray, List.length_cons, List.length_nil, Nat.reduceAdd, Nat.reduceSub, Array.replicate_succ, Array.replicate_zero, List.push_toArray, List.append_toArray, List.nil_append, List.cons_append]
  gi_wp2
  go_ret
  exact ⟨rfl, rfl⟩
/-- What stands between two rounds: the way back as it is so far. -/
def BackI (Ob base : Nat) (w : World) (c0 c1 c2 c3 c4 c5 : Value) (pre : List (Nat × S93)) (W : World) : Prop :=
  ∃ v, W.heap[Ob]? = some (.cells #[c0, c1, c2, c3, c4, c5, v] 26 (0, 0)) ∧ Kd.R k93 93 W base (fun _ => True) v (bOf pre) ∧ Below w.heap.size w W ∧ W.heap[w.heap.size + 1]? = some (.cells #[.string ⟨#[]⟩, .int .i64 0, .string ⟨#[]⟩, .int .i64 0, .bool false, .bool false, .slice none 0 0] 26 (0, 0))
theorem set6 {w : World} {g : Nat} {a0 a1 a2 a3 a4 a5 a6 x6 : Value} {t : TypeId} (h : w.heap[g]? = some (.cells #[a0, a1, a2, a3, a4, a5, a6] t (0, 0))) :
    (w.setCell ⟨g, 6, none⟩ x6).heap[g]? = some (.cells #[a0, a1, a2, a3, a4, a5, x6] t (0, 0)) := by
  simp [World.setCell, Array.getElem?_modify, h]
theorem seven_other (W : World) {g k : Nat} (hne : k ≠ g) (x0 x1 x2 x3 x4 x5 x6 : Value) :
    (((((((W.setCell ⟨g, 0, none⟩ x0).setCell ⟨g, 1, none⟩ x1).setCell ⟨g, 2, none⟩ x2).setCell ⟨g, 3, none⟩ x3).setCell ⟨g, 4, none⟩ x4).setCell ⟨g, 5, none⟩ x5).setCell ⟨g, 6, none⟩ x6).heap[k]? = W.heap[k]? := by
  rw [Below.heap_setCell _ _ _ _ hne, Below.heap_setCell _ _ _ _ hne, Below.heap_setCell _ _ _ _ hne, Below.heap_setCell _ _ _ _ hne, Below.heap_setCell _ _ _ _ hne, Below.heap_setCell _ _ _ _ hne, Below.heap_setCell _ _ _ _ hne]
def path_Back.f (a0_0 : ByteArray) (a0_1 : Int) (a0_2 : ByteArray) (a0_3 : Int) (a0_4 : Bool) (a0_5 : Bool) (l0_6 : List S93) : Option (ByteArray × Int × ByteArray × Int × Bool × Bool × List S93) :=
  if l0_6.length ≤ 1000000 then (path_Command.f a0_0 a0_1 a0_2 a0_3 a0_4 a0_5 l0_6).bind fun cm => some (a0_2, a0_3, a0_0, a0_1, !cm, !(!cm), bOf (backK l0_6 l0_6.length)) else none
set_option maxHeartbeats 2000000 in
set_option maxRecDepth 100000 in
theorem path_Back.calls (a0_0 : ByteArray) (a0_1 : Int) (a0_2 : ByteArray) (a0_3 : Int) (a0_4 : Bool) (a0_5 : Bool) (A0_6 : Option Addr) (c0_6 : Nat) (l0_6 : List (S93)) (r0 : ByteArray) (r1 : Int) (r2 : ByteArray) (r3 : Int) (r4 r5 : Bool) (r6 : List S93) (w : World) (hr0_6 : Kd.C k93 w A0_6 l0_6.length l0_6) (hc0_6 : l0_6.length ≤ c0_6) (h : path_Back.f a0_0 a0_1 a0_2 a0_3 a0_4 a0_5 l0_6 = some (r0, r1, r2, r3, r4, r5, r6)) :
    Calls Tryd.prog 22 #[.agg #[.string a0_0, .int .i64 a0_1, .string a0_2, .int .i64 a0_3, .bool a0_4, .bool a0_5, .slice A0_6 l0_6.length c0_6]] w fun e w' => ∃ v6_ : Value, e = .returned (.agg #[.string r0, .int .i64 r1, .string r2, .int .i64 r3, .bool r4, .bool r5, v6_]) ∧ Kd.R k93 93 w' w.heap.size (fun _ => True) v6_ r6 ∧ Below w.heap.size w w' := by
  unfold path_Back.f at h
  split at h
  case isFalse => cases h
  rename_i hl
  obtain ⟨cm, hcm, h⟩ := Option.bind_eq_some_iff.1 h
  simp only [Option.some.injEq, Prod.mk.injEq] at h
  obtain ⟨rfl, rfl, rfl, rfl, rfl, rfl, rfl⟩ := h
  have HC := Aside0.mk hr0_6
  have HCM := Aside0.mk hcm
  clear hr0_6 hcm
  have hu26 := Tryd.underlying26
  have hu23 := Tryd.underlying23
  have hu93 := Tryd.underlying93
  refine (callsIn_wide (n := 6)).1 ?_
  refine callsIn_of_wp_marks Tryd.func22 rfl trivial ?_ rfl
  simp only [Tryd.ntmps22, List.size_toArray, List.length_cons, List.length_nil, Nat.reduceAdd, Nat.reduceSub, Array.replicate_succ, Array.replicate_zero, List.push_toArray, List.append_toArray, List.nil_append, List.cons_append]
  have HB := Aside0.mk (Below.refl w.heap.size w)
  gi_wp2_with (fail)
  have hB2 := ((Below.refl w.heap.size w).alloc (Nat.le_refl _) (.cells #[.string a0_0, .int .i64 a0_1, .string a0_2, .int .i64 a0_3, .bool a0_4, .bool a0_5, .slice A0_6 l0_6.length c0_6] 26)).alloc (by simp) (.cells #[.string ⟨#[]⟩, .int .i64 0, .string ⟨#[]⟩, .int .i64 0, .bool false, .bool false, .slice none 0 0] 26)
  have hp1 := (Below.heap_alloc (w.alloc (.cells #[.string a0_0, .int .i64 a0_1, .string a0_2, .int .i64 a0_3, .bool a0_4, .bool a0_5, .slice A0_6 l0_6.length c0_6] 26)) (.cells #[.string ⟨#[]⟩, .int .i64 0, .string ⟨#[]⟩, .int .i64 0, .bool false, .bool false, .slice none 0 0] 26) w.heap.size (by simp)).trans (heap_alloc_new w (.cells #[.string a0_0, .int .i64 a0_1, .string a0_2, .int .i64 a0_3, .bool a0_4, .bool a0_5, .slice A0_6 l0_6.length c0_6] 26))
  have hr1 := heap_alloc_new (w.alloc (.cells #[.string a0_0, .int .i64 a0_1, .string a0_2, .int .i64 a0_3, .bool a0_4, .bool a0_5, .slice A0_6 l0_6.length c0_6] 26)) (.cells #[.string ⟨#[]⟩, .int .i64 0, .string ⟨#[]⟩, .int .i64 0, .bool false, .bool false, .slice none 0 0] 26)
  rw [World.size_alloc] at hr1
  have hs1 : w.heap.size + 2 ≤ ((w.alloc (.cells #[.string a0_0, .int .i64 a0_1, .string a0_2, .int .i64 a0_3, .bool a0_4, .bool a0_5, .slice A0_6 l0_6.length c0_6] 26)).alloc (.cells #[.string ⟨#[]⟩, .int .i64 0, .string ⟨#[]⟩, .int .i64 0, .bool false, .bool false, .slice none 0 0] 26)).heap.size := by simp
  generalize (w.alloc (.cells #[.string a0_0, .int .i64 a0_1, .string a0_2, .int .i64 a0_3, .bool a0_4, .bool a0_5, .slice A0_6 l0_6.length c0_6] 26)).alloc (.cells #[.string ⟨#[]⟩, .int .i64 0, .string ⟨#[]⟩, .int .i64 0, .bool false, .bool false, .slice none 0 0] 26) = w2 at hB2 hp1 hr1 hs1 ⊢
  refine ⟨trivial, (callsIn_wide.2 (path_Command.calls a0_0 a0_1 a0_2 a0_3 a0_4 a0_5 A0_6 c0_6 l0_6 cm w2 (Kd.C_below HC.out hB2) hc0_6 HCM.out)).mono ?_⟩
  rintro e w3 ⟨rfl, hb⟩
  have HP3 := Aside0.mk ((hb.block _ (by omega)).trans hp1)
  have HR3 := Aside0.mk ((hb.block _ (by omega)).trans hr1)
  have HB3 := Aside0.mk (below_then hB2 hB2.size hb)
  have hs3 : w.heap.size + 2 ≤ w3.heap.size := by have := hb.size; omega
  obtain ⟨⟨k0, k1, k2, k3, k4, k5, k6⟩, _⟩ := seven_cell HP3.out
  have hx6 : ∀ o : Obj, (w3.alloc o).cell? ⟨w.heap.size, 6, none⟩ = some (.slice A0_6 l0_6.length c0_6) := fun o => by
    rw [World.cell?_alloc_lt]
    · exact k6
    · exact World.block_lt_of_cell? w3 _ k6
  clear hb hB2 hp1 hr1 hs1 HB
  gi_wp2_with (fail)
  have hOut := heap_alloc_new w3 (.cells #[.string a0_2, .int .i64 a0_3, .string a0_0, .int .i64 a0_1, .bool !cm, .bool cm, .slice none 0 0] 26)
  have HB4 := HB3.out.alloc HB3.out.size (.cells #[.string a0_2, .int .i64 a0_3, .string a0_0, .int .i64 a0_1, .bool !cm, .bool cm, .slice none 0 0] 26)
  have hR4 := (Below.heap_alloc w3 (.cells #[.string a0_2, .int .i64 a0_3, .string a0_0, .int .i64 a0_1, .bool !cm, .bool cm, .slice none 0 0] 26) (w.heap.size + 1) (by omega)).trans HR3.out
  have hs4 : (w3.alloc (.cells #[.string a0_2, .int .i64 a0_3, .string a0_0, .int .i64 a0_1, .bool !cm, .bool cm, .slice none 0 0] 26)).heap.size = w3.heap.size + 1 := by simp
  clear hx6 k0 k1 k2 k3 k4 k5 k6
  generalize w3.alloc (.cells #[.string a0_2, .int .i64 a0_3, .string a0_0, .int .i64 a0_1, .bool !cm, .bool cm, .slice none 0 0] 26) = w4 at hOut HB4 hR4 hs4 ⊢
  refine ⟨trivial, (backw_in Fence.wide 5 trivial rfl A0_6 l0_6.length c0_6 w4).mono ?_⟩
  rintro e w5' ⟨rfl, rfl⟩
  gi_wp2_with (fail)
  have hO5 := (Below.heap_alloc w4 (.cells #[.slice A0_6 l0_6.length c0_6] 24) w3.heap.size (by omega)).trans hOut
  have hB5 := HB4.alloc HB4.size (.cells #[.slice A0_6 l0_6.length c0_6] 24)
  have hR5 := (Below.heap_alloc w4 (.cells #[.slice A0_6 l0_6.length c0_6] 24) (w.heap.size + 1) (by omega)).trans hR4
  have hS5 := heap_alloc_new w4 (.cells #[.slice A0_6 l0_6.length c0_6] 24)
  have hs5 : (w4.alloc (.cells #[.slice A0_6 l0_6.length c0_6] 24)).heap.size = w4.heap.size + 1 := by simp
  generalize w4.alloc (.cells #[.slice A0_6 l0_6.length c0_6] 24) = w5 at hO5 hB5 hR5 hS5 hs5 ⊢
  rw [hs4] at hS5
  have hKb : ∀ (W : World) (l : Nat) (o o' : Obj), w5.heap.size ≤ l → W.heap[l]? = some o → o.isCells = false → o.isWalk = false → KpB w.heap.size (w3.heap.size + 1) W (W.putObj l o') := fun W l o o' h1 h2 h3 h4 =>
    ⟨belowK_b (w := w5) hB5.size W l o o' h1 h2 h3 h4, fun cs t hc => by
      rw [World.putObj_heap_other (fun e => by subst e; rw [h2] at hc; cases hc; cases h3)]
      exact hc⟩
  have hI : OwnFrom w5.heap.size (BackI w3.heap.size w5.heap.size w (.string a0_2) (.int .i64 a0_3) (.string a0_0) (.int .i64 a0_1) (.bool !cm) (.bool cm)) := by
    intro s W W' row ⟨v, g1, g2, g3, g4⟩ hg hr
    refine ⟨v, (hg.block w3.heap.size (Array.getElem?_eq_some_iff.1 g1).1 (fun e => ?_)).trans g1, Kd.R_mono (Kd.R_grown (Kd.R_bound g2) hg (fun k hk e => ?_)) (fun _ _ => trivial), g3.grown hg g3.size (fun k e => ?_), (hg.block (w.heap.size + 1) (Array.getElem?_eq_some_iff.1 g4).1 (fun e => ?_)).trans g4⟩
    · obtain ⟨_, o, ho, hc⟩ := hr _ e.symm
      rw [g1] at ho; cases ho; cases hc
    · obtain ⟨_, o, ho, hc⟩ := hr _ e.symm
      obtain ⟨q, _, cs, hcs⟩ := hk.2.2.2
      rw [hcs] at ho; cases ho; cases hc
    · have := (hr _ e).1
      have := hB5.size
      omega
    · obtain ⟨_, o, ho, hc⟩ := hr _ e.symm
      rw [g4] at ho; cases ho; cases hc
  refine wpIn_rangeFunc_ownH rfl (by decide) (gf := 89) (lb := #[.pointer (some ⟨w3.heap.size + 1, 0, none⟩)]) rfl trivial (enters_of Tryd.func89 (by kernel_rfl) rfl) (back_stops 5 (by decide) (w3.heap.size + 1) c0_6 A0_6 l0_6 hl w w5 HC.out hB5 hS5) KpB.trans hKb (Below.refl _ _) (fun _ => rfl)
    (BackI w3.heap.size w5.heap.size w (.string a0_2) (.int .i64 a0_3) (.string a0_0) (.int .i64 a0_1) (.bool !cm) (.bool cm)) (fun _ _ _ => False) hI (fun _ _ _ _ _ hs _ _ => hs) ⟨_, hO5, Kd.R_nil _ _ _ _ _, hB5, hR5⟩
    (fun x a' W => ∃ Bx, W.heap[Bx]? = some (.cells #[.string x.2.f0.f0, .int .i64 x.2.f0.f1, .bool x.2.f1] 93 (0, 0)) ∧ a' = { tmps := #[.agg #[.string a0_0, .int .i64 a0_1, .string a0_2, .int .i64 a0_3, .bool a0_4, .bool a0_5, .slice A0_6 l0_6.length c0_6], .pointer (some ⟨w.heap.size, 0, none⟩), .pointer (some ⟨w.heap.size + 1, 0, none⟩), .bool !cm, .pointer (some ⟨w3.heap.size, 0, none⟩), undef, .pointer (some ⟨Bx, 0, none⟩), .agg #[.string a0_0, .int .i64 a0_1, .string a0_2, .int .i64 a0_3, .bool a0_4, .bool a0_5, .slice A0_6 l0_6.length c0_6], .bool cm, .bool !cm, .pointer (some ⟨w.heap.size, 2, none⟩), .agg #[.string a0_2, .int .i64 a0_3], .pointer (some ⟨w.heap.size, 0, none⟩), .agg #[.string a0_0, .int .i64 a0_1], .bool !cm, .bool !cm, .bool cm, .agg #[.string a0_2, .int .i64 a0_3, .string a0_0, .int .i64 a0_1, .bool !cm, .bool cm, .slice none 0 0], .pointer (some ⟨w.heap.size, 6, none⟩), .slice A0_6 l0_6.length c0_6, .func (.func 89) #[] #[.pointer (some ⟨w3.heap.size + 1, 0, none⟩)], .int .i64 (x.1 : Int), .agg #[.string x.2.f0.f0, .int .i64 x.2.f0.f1, .bool x.2.f1], undef, undef, undef, undef, undef, undef, undef, undef, undef], defers := [] }) ?hAx ?assign ?body ?done ?stop
  case hAx =>
    intro x a' s W W' row ⟨Bx, g1, g2⟩ hg hr
    refine ⟨Bx, (hg.block Bx (Array.getElem?_eq_some_iff.1 g1).1 (fun e => ?_)).trans g1, g2⟩
    obtain ⟨_, o, ho, hc⟩ := hr _ e.symm
    rw [g1] at ho; cases ho; cases hc
  case assign =>
    intro l pre x W K hi hK
    dsimp only [encB]
    obtain ⟨v, g1, g2, g3, g4⟩ := hi
    gi_wp2
    refine hK _ _ ((KeepsOthers.alloc _ _).from _) ⟨(Below.refl _ W).alloc g3.size _, fun cs t hc => (Below.heap_alloc W _ _ (Array.getElem?_eq_some_iff.1 hc).1).trans hc⟩ ⟨v, (Below.heap_alloc W _ _ (Array.getElem?_eq_some_iff.1 g1).1).trans g1, Kd.R_alloc g2 _, g3.alloc g3.size _, (Below.heap_alloc W _ _ (Array.getElem?_eq_some_iff.1 g4).1).trans g4⟩ ⟨W.heap.size, heap_alloc_new W _, rfl⟩
  case body =>
    rintro l pre x a' W hl2 ⟨r, hr⟩ ⟨v, g1, g2, g3, g4⟩ ⟨Bx, hx, rfl⟩ hlt
    have hlen := Aside0.mk (show (bOf pre).length = pre.length by simp [bOf])
    generalize hXs : bOf pre = Xs at g2 hlen ⊢
    have hbase : w5.heap.size ≤ W.heap.size := by have := (Array.getElem?_eq_some_iff.1 hr).1; omega
    have hOb : w3.heap.size < w5.heap.size := by omega
    have x0 : W.cell? ⟨Bx, 0, none⟩ = some (.string x.2.f0.f0) := blk_cell hx 0
    have x1 : W.cell? ⟨Bx, 1, none⟩ = some (.int .i64 x.2.f0.f1) := blk_cell hx 1
    have o6 : W.cell? ⟨w3.heap.size, 6, none⟩ = some v := blk_cell g1 6
    obtain ⟨i0, hi0, hz0, hz1, hz2⟩ := info_parts info93
    have G2 := Kd.R_alloc g2 (.cells #[.string x.2.f0.f0, .int .i64 x.2.f0.f1, .bool false] 93)
    have hrb := Kd.R_base g2
    have hty := Kd.R_typed g2
    obtain ⟨q0, inner, hown, hrep⟩ := G2
    obtain ⟨Av, cv, hv, hlv⟩ := Kd.R_reads g2
    clear hlv
    subst hv
    have h63 := Aside0.mk (show Xs.length + 1 ≤ maxLen by have := hlen.out; have : maxLen = 9223372036854775807 := rfl; omega)
    have hby := Aside0.mk (show (Xs.length + 1) * 32 ≤ 140737488355328 by have := hlen.out; omega)
    have hbs := Aside0.mk (show w5.heap.size ≤ (W.alloc (.cells #[.string x.2.f0.f0, .int .i64 x.2.f0.f1, .bool false] 93)).heap.size by simp; omega)
    have hnw : Aside0 (∀ j u, [Value.string x.2.f0.f0, .int .i64 x.2.f0.f1, .bool false][j]? = some u → (W.alloc (.cells #[.string x.2.f0.f0, .int .i64 x.2.f0.f1, .bool false] 93)).cell? ((⟨W.heap.size, 0, none⟩ : Addr).add j) = some u) := ⟨fun j u h => by
      have hb := heap_alloc_new W (.cells #[.string x.2.f0.f0, .int .i64 x.2.f0.f1, .bool false] 93)
      match j with
      | 0 => cases h; exact blk_cell hb 0
      | 1 => cases h; exact blk_cell hb 1
      | 2 => cases h; exact blk_cell hb 2
      | j + 3 => cases h⟩
    gi_wp2_with (first | (gi_at_builtin; refine wpListIn_append_own_at _ rfl (.tmp 24) (.tmp 28) 24 rfl w5.heap.size 93 i0 _ 3 32 Tryd.underlying24 hi0 hz0 hz1 hz2 rfl (by decide) (.slice Av Xs.length cv) Xs.length inner rfl hown ⟨W.heap.size, 0, none⟩ 1 1 [.string x.2.f0.f0, .int .i64 x.2.f0.f1, .bool false] rfl rfl hnw.out (by simp [Value.oneCell']) h63.out hby.out hbs.out ?_; intro v' w1 hown' hgrow hnil hat; have hR1 := Kd.R_appended q0 hrep (k93_mkM _ _ (fun _ => False) (un0 x.2)) (fun _ h => h.elim) (fun _ _ => trivial) hown' hgrow (hat.imp id (fun e => ⟨_, e, Nat.le_refl _⟩)); obtain ⟨Aw, cw, hv', hlw⟩ := Kd.R_reads hR1; clear hlw; subst hv'; have g1' := (hgrow.block w3.heap.size (by simp; omega) (fun e => by have := hrb _ e.symm; omega)).trans ((Below.heap_alloc W _ _ (Array.getElem?_eq_some_iff.1 g1).1).trans g1); obtain ⟨⟨_, _, _, _, _, _, o6'⟩, _, _, _, _, _, _, o6f⟩ := seven_cell g1'; clear o6 x0 x1 hown hown'))
    have hn5 : w3.heap.size + 1 + 1 = w5.heap.size := by omega
    try rw [hn5]
    have hfar : ∀ k o, k < w5.heap.size → k ≠ w3.heap.size → W.heap[k]? = some o → ∀ u, (w1.setCell ⟨w3.heap.size, 6, none⟩ u).heap[k]? = some o := fun k o hk hne ho u =>
      (Below.heap_setCell w1 ⟨w3.heap.size, 6, none⟩ u k hne).trans ((hgrow.block k (by have := hB5.size; simp; omega) (fun e => by have := hrb _ e.symm; omega)).trans ((Below.heap_alloc W _ _ (Array.getElem?_eq_some_iff.1 ho).1).trans ho))
    have hbl : ∀ (W0 : World) u, Below w.heap.size W0 W → Below w.heap.size W0 (w1.setCell ⟨w3.heap.size, 6, none⟩ u) := fun W0 u h =>
      ((h.alloc g3.size _).grown hgrow (by have := g3.size; simp; omega) (fun k e => by have := hrb _ e; have := hB5.size; omega)).setCell (by show w.heap.size ≤ w3.heap.size; omega) u
    have hX : bOf (pre ++ [x]) = Xs ++ [un0 x.2] := by rw [← hXs]; simp [bOf]
    have hle : (Xs ++ [un0 x.2]).length = Xs.length + 1 := by simp
    rw [hle] at hR1
    refine ⟨((KeepsOthers.alloc W _).trans ((KeepsOthers.of_grownBy hgrow (fun j o e ho => ?_)).trans (KeepsOthers.setCell w1 _ _))).from _, ⟨hbl W _ (Below.refl _ _), fun cs t hc => hfar _ _ (by omega) (by omega) hc _⟩, _, set6 g1', ?_, hbl w _ g3, hfar _ _ (by omega) (by omega) g4 _⟩
    · obtain ⟨cells, hc⟩ := hty _ e
      rw [(Below.heap_alloc W _ _ (Array.getElem?_eq_some_iff.1 hc).1).trans hc] at ho
      cases ho
      rfl
    · rw [hX]
      exact Kd.R_mono (Kd.R_far (p := ⟨w3.heap.size, 6, none⟩) (Kd.R_bound hR1) (fun k hk => by have := hk.2.1; show k ≠ w3.heap.size; omega) _) (fun _ _ => trivial)
  case done =>
    rintro D ys W hD rfl ⟨v, g1, g2, g3, g4⟩ hK
    obtain ⟨Av, cv, rfl, hlv⟩ := Kd.R_reads g2
    obtain ⟨⟨k0, k1, k2, k3, k4, k5, k6⟩, _⟩ := seven_cell g1
    obtain ⟨⟨r0, r1, r2, r3, r4, r5, r6⟩, f0, f1, f2, f3, f4, f5, f6⟩ := seven_cell g4
    have hK' := Aside0.mk hK
    clear hK hlv
    gi_wp2
    have hD2 : D ≠ w.heap.size + 1 := by omega
    have hK7 := (seven_other W hD2 (.string a0_2) (.int .i64 a0_3) (.string a0_0) (.int .i64 a0_1) (.bool !cm) (.bool cm) (.slice Av (bOf (backK l0_6 l0_6.length)).length cv)).trans hK'.out
    have hb7 := seven_below g3 (g := w.heap.size + 1) (by omega) (.string a0_2) (.int .i64 a0_3) (.string a0_0) (.int .i64 a0_1) (.bool !cm) (.bool cm) (.slice Av (bOf (backK l0_6 l0_6.length)).length cv)
    have hs7 := seven_set g4 (x0 := .string a0_2) (x1 := .int .i64 a0_3) (x2 := .string a0_0) (x3 := .int .i64 a0_1) (x4 := .bool !cm) (x5 := .bool cm) (x6 := .slice Av (bOf (backK l0_6 l0_6.length)).length cv)
    have hR7 := Kd.R_mono (Kd.R_move (Kd.R_bound g2) (fun k hk => seven_other W (k := k) (g := w.heap.size + 1) (by have := hk.2.1; omega) (.string a0_2) (.int .i64 a0_3) (.string a0_0) (.int .i64 a0_1) (.bool !cm) (.bool cm) (.slice Av (bOf (backK l0_6 l0_6.length)).length cv))) (fun _ _ => trivial)
    revert hK7 hb7 hs7 hR7
    generalize ((((((W.setCell { block := w.heap.size + 1, off := 0 } (Value.string a0_2)).setCell { block := w.heap.size + 1, off := 1 } (Value.int IntKind.i64 a0_3)).setCell { block := w.heap.size + 1, off := 2 } (Value.string a0_0)).setCell { block := w.heap.size + 1, off := 3 } (Value.int IntKind.i64 a0_1)).setCell { block := w.heap.size + 1, off := 4 } (Value.bool !cm)).setCell { block := w.heap.size + 1, off := 5 } (Value.bool cm)).setCell { block := w.heap.size + 1, off := 6 } (Value.slice Av (bOf (backK l0_6 l0_6.length)).length cv) = W7
    intro hK7 hb7 hs7 hR7
    refine ⟨by simp, .inl ⟨_, _, rfl, run_takeDeferred hK7, ?_⟩⟩
    have hs8 := (World.putObj_heap_other (w := W7) (o := .deferred none) (Ne.symm hD2)).trans hs7
    have hlt7 := (Array.getElem?_eq_some_iff.1 hK7).1
    refine ⟨_, by simp [results, Tryd.f22, asAddr, run_loadVar_row _ _ 26 26 _ (0, 0) _ hs8 hu26 rfl rfl]; rfl, _, by rw [Bool.not_not], ?_, hb7.grown (grownBy_putObj' _ _ _) hb7.size (fun k e => by cases e; have := hB5.size; omega)⟩
    refine Kd.R_mono (Kd.R_lower (Kd.R_grown (Kd.R_bound hR7) (grownBy_putObj' _ _ _) (fun k hk e => ?_)) hB5.size) (fun _ _ => trivial)
    obtain ⟨q, _, cs, hcs⟩ := hk.2.2.2
    cases e
    rw [hK7] at hcs
    cases hcs
  case stop =>
    rintro D c pre W _ _ h _
    exact h.elim
end Go.Proofs.YtpmieapgbdbabaaDoor.QAll
end

section
/- Walks, written by a program of this session (wip/pp): a Go function comes to what the Lean function beside it tells. -/
namespace Go.Proofs.YtpmieapgbdbabaaDoor.QAll
open Go.RowKit Go.Proofs.YtpmieapgbdbabaaDoorW.PrintWords Go.Proofs.YtpmieapgbdbabaaDoorW.PrintLast Go.Proofs.YtpmieapgbdbabaaDoorW.PrintMore
attribute [local go_sem] max2_int min2_int max_two min_two max_three min_three max_four min_four
set_option linter.unusedVariables false
set_option linter.unusedSimpArgs false

mutual
def squelchref04_Right.j0 : Nat → Bool → ByteArray → Int → Option (Bool)
 | 0, _, _, _ => none
 | k + 1, x24, x325000, x325001 => if x24 = true then (some false) else (squelchref04_Right.l0 k 0 x325000 x325001)
def squelchref04_Right.l0 : Nat → Int → ByteArray → Int → Option (Bool)
 | 0, _, _, _ => none
 | k + 1, x3, x325000, x325001 => if x3 < (x325000.size : Int) then (if 0 ≤ x3 then (if (bt x325000 x3) ≥ 65 then (if (bt x325000 x3) ≤ 90 then (squelchref04_Right.l0 k (wrap64 (x3 + 1)) x325000 x325001) else (if (bt x325000 x3) ≥ 48 then (if ((bt x325000 x3) ≤ 57) then (squelchref04_Right.l0 k (wrap64 (x3 + 1)) x325000 x325001) else (some false)) else (some false))) else (if (bt x325000 x3) ≥ 48 then (if ((bt x325000 x3) ≤ 57) then (squelchref04_Right.l0 k (wrap64 (x3 + 1)) x325000 x325001) else (some false)) else (some false))) else (none)) else (some true)
end
def squelchref04_Right.f (k : Nat) (a0_0 : ByteArray) (a0_1 : Int) : Option (Bool) := if (a0_0.size : Int) < 1 then (squelchref04_Right.j0 k true a0_0 a0_1) else (if (a0_0.size : Int) > 6 then (squelchref04_Right.j0 k true a0_0 a0_1) else (if a0_1 < 0 then (squelchref04_Right.j0 k true a0_0 a0_1) else (squelchref04_Right.j0 k (decide (a0_1 > 15)) a0_0 a0_1)))
end Go.Proofs.YtpmieapgbdbabaaDoor.QAll
end

section
/- Walks, written by a program of this session (wip/pp): a Go function comes to what the Lean function beside it tells. -/
namespace Go.Proofs.YtpmieapgbdbabaaDoor.QAll
open Go.RowKit Go.Proofs.YtpmieapgbdbabaaDoorW.PrintWords Go.Proofs.YtpmieapgbdbabaaDoorW.PrintLast Go.Proofs.YtpmieapgbdbabaaDoorW.PrintMore
attribute [local go_sem] max2_int min2_int max_two min_two max_three min_three max_four min_four
set_option linter.unusedVariables false
set_option linter.unusedSimpArgs false

def squelchref04_Digits.f (a0 : Int) : Option (ByteArray) := if a0 < 10 then (if 0 ≤ a0 then (if a0 ≤ (wrap64 (a0 + 1)) then (if (wrap64 (a0 + 1)) ≤ 10 then (some ((⟨#[48, 49, 50, 51, 52, 53, 54, 55, 56, 57]⟩ : ByteArray).extract (a0 : Int).toNat ((wrap64 (a0 + 1)) : Int).toNat)) else (none)) else (none)) else (none)) else (if 0 ≤ (wrap64 (Int.tdiv a0 10)) then (if (wrap64 (Int.tdiv a0 10)) ≤ (wrap64 ((wrap64 (Int.tdiv a0 10)) + 1)) then (if (wrap64 ((wrap64 (Int.tdiv a0 10)) + 1)) ≤ 10 then (if 0 ≤ (Int.tmod a0 10) then (if (Int.tmod a0 10) ≤ (wrap64 ((Int.tmod a0 10) + 1)) then (if (wrap64 ((Int.tmod a0 10) + 1)) ≤ 10 then (if ((⟨#[48, 49, 50, 51, 52, 53, 54, 55, 56, 57]⟩ : ByteArray).extract ((wrap64 (Int.tdiv a0 10)) : Int).toNat ((wrap64 ((wrap64 (Int.tdiv a0 10)) + 1)) : Int).toNat).size + ((⟨#[48, 49, 50, 51, 52, 53, 54, 55, 56, 57]⟩ : ByteArray).extract ((Int.tmod a0 10) : Int).toNat ((wrap64 ((Int.tmod a0 10) + 1)) : Int).toNat).size ≤ 9223372036854775807 then (some (((⟨#[48, 49, 50, 51, 52, 53, 54, 55, 56, 57]⟩ : ByteArray).extract ((wrap64 (Int.tdiv a0 10)) : Int).toNat ((wrap64 ((wrap64 (Int.tdiv a0 10)) + 1)) : Int).toNat) ++ ((⟨#[48, 49, 50, 51, 52, 53, 54, 55, 56, 57]⟩ : ByteArray).extract ((Int.tmod a0 10) : Int).toNat ((wrap64 ((Int.tmod a0 10) + 1)) : Int).toNat))) else (none)) else (none)) else (none)) else (none)) else (none)) else (none)) else (none))
end Go.Proofs.YtpmieapgbdbabaaDoor.QAll
end

section
/- Walks, written by a program of this session (wip/pp): a Go function comes to what the Lean function beside it tells. -/
namespace Go.Proofs.YtpmieapgbdbabaaDoor.QAll
open Go.RowKit Go.Proofs.YtpmieapgbdbabaaDoorW.PrintWords Go.Proofs.YtpmieapgbdbabaaDoorW.PrintLast Go.Proofs.YtpmieapgbdbabaaDoorW.PrintMore
attribute [local go_sem] max2_int min2_int max_two min_two max_three min_three max_four min_four
set_option linter.unusedVariables false
set_option linter.unusedSimpArgs false

mutual
def squelchref04_Parse.l0 : Nat → ByteArray → Int → ByteArray → Int → Option (ByteArray × Int × Bool)
 | 0, _, _, _, _ => none
 | k + 1, x0, x5, x469000, x469001 => if x5 < (x0.size : Int) then (if 0 ≤ x5 then (squelchref04_Parse.j1 k x0 x5 ((bt x0 x5) != 45) x469000 x469001) else (none)) else (squelchref04_Parse.j1 k x0 x5 false x469000 x469001)
def squelchref04_Parse.j1 : Nat → ByteArray → Int → Bool → ByteArray → Int → Option (ByteArray × Int × Bool)
 | 0, _, _, _, _, _ => none
 | k + 1, x0, x5, x19, x469000, x469001 => if x19 = true then (if 0 ≤ x5 then (if x5 < (x0.size : Int) then (if (bt x0 x5) ≥ 97 then (if (bt x0 x5) ≤ 122 then ((some (([((bt x0 x5) - 32) % 256] : List Int) : List Int)).bind fun y469 => (if x469000.size + (strOfNums y469).size ≤ 9223372036854775807 then (squelchref04_Parse.l0 k x0 (wrap64 (x5 + 1)) (x469000 ++ (strOfNums y469)) x469001) else (none))) else ((some (([bt x0 x5] : List Int) : List Int)).bind fun y472 => (if x469000.size + (strOfNums y472).size ≤ 9223372036854775807 then (squelchref04_Parse.l0 k x0 (wrap64 (x5 + 1)) (x469000 ++ (strOfNums y472)) x469001) else (none)))) else ((some (([bt x0 x5] : List Int) : List Int)).bind fun y475 => (if x469000.size + (strOfNums y475).size ≤ 9223372036854775807 then (squelchref04_Parse.l0 k x0 (wrap64 (x5 + 1)) (x469000 ++ (strOfNums y475)) x469001) else (none)))) else (none)) else (none)) else (if x5 < (x0.size : Int) then (squelchref04_Parse.l1 k x0 x5 false 0 x469000 x469001) else ((squelchref04_Right.f k x469000 x469001).bind fun t480 => (if t480 = true then (some (x469000, x469001, true)) else (some ((⟨#[]⟩ : ByteArray), 0, false)))))
def squelchref04_Parse.l1 : Nat → ByteArray → Int → Bool → Int → ByteArray → Int → Option (ByteArray × Int × Bool)
 | 0, _, _, _, _, _, _ => none
 | k + 1, x0, x5, x7, x8, x469000, x469001 => if x8 ≤ 15 then ((squelchref04_Digits.f x8).bind fun t478 => (if 0 ≤ (wrap64 (x5 + 1)) then (if (wrap64 (x5 + 1)) ≤ (x0.size : Int) then (if t478.toList = (x0.extract ((wrap64 (x5 + 1)) : Int).toNat x0.size).toList then (squelchref04_Parse.l1 k x0 x5 true (wrap64 (x8 + 1)) x469000 x8) else (squelchref04_Parse.l1 k x0 x5 x7 (wrap64 (x8 + 1)) x469000 x469001)) else (none)) else (none))) else (if x7 = true then ((squelchref04_Right.f k x469000 x469001).bind fun t479 => (if t479 = true then (some (x469000, x469001, true)) else (some ((⟨#[]⟩ : ByteArray), 0, false)))) else (some ((⟨#[]⟩ : ByteArray), 0, false)))
end
def squelchref04_Parse.f (k : Nat) (a0 : ByteArray) : Option (ByteArray × Int × Bool) := squelchref04_Parse.l0 k a0 0 (⟨#[]⟩ : ByteArray) 0
end Go.Proofs.YtpmieapgbdbabaaDoor.QAll
end

section
/- Walks, written by a program of this session (wip/pp): a Go function comes to what the Lean function beside it tells. -/
namespace Go.Proofs.YtpmieapgbdbabaaDoor.QAll
open Go.RowKit Go.Proofs.YtpmieapgbdbabaaDoorW.PrintWords Go.Proofs.YtpmieapgbdbabaaDoorW.PrintLast Go.Proofs.YtpmieapgbdbabaaDoorW.PrintMore
attribute [local go_sem] max2_int min2_int max_two min_two max_three min_three max_four min_four
set_option linter.unusedVariables false
set_option linter.unusedSimpArgs false

def squelchref04_Text.f (a0_0 : ByteArray) (a0_1 : Int) : Option (ByteArray) := if a0_1 = 0 then (some a0_0) else (if a0_0.size + 1 ≤ 9223372036854775807 then ((squelchref04_Digits.f a0_1).bind fun t396 => (if (a0_0 ++ (⟨#[45]⟩ : ByteArray)).size + t396.size ≤ 9223372036854775807 then (some ((a0_0 ++ (⟨#[45]⟩ : ByteArray)) ++ t396)) else (none))) else (none))
end Go.Proofs.YtpmieapgbdbabaaDoor.QAll
end

section
/- What the reference says of a call's word: which call is right, its digits, and what is read of a word: as much as the walked program tells; over plain strings and numbers. -/
set_option linter.unusedVariables false
namespace Go.Proofs.YtpmieapgbdbabaaDoor.Pure
open Go.RowKit Go.Proofs.YtpmieapgbdbabaaDoor.QAll Go.Proofs.YtpmieapgbdbabaaDoorW.PrintWords Go.Proofs.YtpmieapgbdbabaaDoorW.PrintLast

theorem wrap_succ (i : Nat) (h : i < 9223372036854775807) : wrap64 ((i : Int) + 1) = ((i + 1 : Nat) : Int) := by unfold wrap64; omega

def digs (n : Nat) : List UInt8 := if n < 10 then [UInt8.ofNat (48 + n)] else [UInt8.ofNat (48 + n / 10), UInt8.ofNat (48 + n % 10)]
end Go.Proofs.YtpmieapgbdbabaaDoor.Pure
end

section
/- What a right call's word is, and that it is read as the call; over plain strings and numbers. -/
set_option linter.unusedVariables false
namespace Go.Proofs.YtpmieapgbdbabaaDoor.Pure
open Go.RowKit Go.Proofs.YtpmieapgbdbabaaDoor.QAll Go.Proofs.YtpmieapgbdbabaaDoorW.PrintWords Go.Proofs.YtpmieapgbdbabaaDoorW.PrintLast

/-- A right call's word. -/
def textS (s : ByteArray) (n : Int) : ByteArray := if n = 0 then s else (s ++ (⟨#[45]⟩ : ByteArray)) ++ ⟨(digs n.toNat).toArray⟩
end Go.Proofs.YtpmieapgbdbabaaDoor.Pure
end

section
/- squelchref05.Text, walked by hand: a right path's word, as the reference writes it. -/
set_option linter.unusedVariables false
set_option linter.unusedSimpArgs false
namespace Go.Proofs.YtpmieapgbdbabaaDoor.QAll
open Go.RowKit Go.Proofs.YtpmieapgbdbabaaDoor.Pure Go.Proofs.YtpmieapgbdbabaaDoorW.PrintWords Go.Proofs.YtpmieapgbdbabaaDoorW.PrintLast Go.Proofs.YtpmieapgbdbabaaDoorW.PrintMore

/-- The first digipeater that has not sent it, in the reference's own count; -1. -/
def rnextFrom : Nat → List S37 → Int
  | _, [] => -1
  | i, d :: r => if d.f1 = true then rnextFrom (i + 1) r else i
def rlast (l : List S37) : Int := if rnextFrom 2 (l.drop 2) = -1 then (l.length : Int) - 1 else rnextFrom 2 (l.drop 2) - 1
/-- The digipeaters' words from the i-th entry on. -/
def rtx (last : Int) : Nat → List S37 → List UInt8
  | _, [] => []
  | i, d :: r => 44 :: ((textS d.f0.f0 d.f0.f1).toList ++ ((if (i : Int) = last then [42] else []) ++ rtx last (i + 1) r))
def rtext (l : List S37) : List UInt8 := (textS (rd_T37 l 1).f0.f0 (rd_T37 l 1).f0.f1).toList ++ 62 :: ((textS (rd_T37 l 0).f0.f0 (rd_T37 l 0).f0.f1).toList ++ rtx (rlast l) 2 (l.drop 2))
def squelchref05_Text.f (l0_0 : List S37) : Option ByteArray := if (decide (2 ≤ l0_0.length ∧ l0_0.length ≤ 1000000) && l0_0.all (fun d => rightB d.f0.f0 d.f0.f1)) = true then some ⟨(rtext l0_0).toArray⟩ else none
theorem drop_T37 (l : List S37) (k : Nat) (h : k < l.length) : l.drop k = rd_T37 l k :: l.drop (k + 1) := by
  rw [List.drop_eq_getElem_cons h]
  unfold rd_T37
  rw [Int.toNat_natCast, List.getD_eq_getElem?_getD, List.getElem?_eq_getElem h]
  rfl
theorem next_at (l : List S37) (hl : l.length ≤ 1000000) : ∀ (d i k : Nat), l.length - i ≤ d → d + 1 ≤ k → i ≤ l.length → squelchref05_Next.l0 k (i : Int) l = some (rnextFrom i (l.drop i))
  | d, i, 0, _, hk, _ => absurd hk (by omega)
  | d, i, k + 1, hd, hk, hi => by
    rw [squelchref05_Next.l0]
    by_cases h : i < l.length
    · obtain ⟨d', rfl⟩ : ∃ d', d = d' + 1 := ⟨d - 1, by omega⟩
      rw [if_pos (by omega), if_pos (by omega), wrap_succ i (by omega), next_at l hl d' (i + 1) k (by omega) (by omega) (by omega), drop_T37 l i h]
      conv => rhs; unfold rnextFrom
      by_cases hf : (rd_T37 l (i : Int)).f1 = true
      · rw [if_pos (by exact hf), if_pos hf]
      · rw [if_neg (by exact hf), if_neg hf]
    · rw [if_neg (by omega), List.drop_eq_nil_of_le (by omega)]
      rfl
theorem next_f37 (l : List S37) (hl : l.length ≤ 1000000) (h2 : 2 ≤ l.length) (k : Nat) (hk : l.length + 1 ≤ k) : squelchref05_Next.f k l = some (rnextFrom 2 (l.drop 2)) := by
  unfold squelchref05_Next.f
  exact next_at l hl l.length 2 k (by omega) hk (by omega)
theorem RdOk.below {w W W1 : World} (h : RdOk w W) (hb : Below W.heap.size W W1) : RdOk w W1 := fun a v hv => (hb.cell (World.block_lt_of_cell? W a (h a v hv))).trans (h a v hv)
end Go.Proofs.YtpmieapgbdbabaaDoor.QAll
end

section
/- Walks, written by a program of this session (wip/pp): a Go function comes to what the Lean function beside it tells. -/
namespace Go.Proofs.YtpmieapgbdbabaaDoor.QAll
open Go.RowKit Go.Proofs.YtpmieapgbdbabaaDoorW.PrintWords Go.Proofs.YtpmieapgbdbabaaDoorW.PrintLast Go.Proofs.YtpmieapgbdbabaaDoorW.PrintMore
attribute [local go_sem] max2_int min2_int max_two min_two max_three min_three max_four min_four
set_option linter.unusedVariables false
set_option linter.unusedSimpArgs false

def squelchref04_Put.l0 : Nat → Bool → Bool → List Int → Int → ByteArray → Int → Option (ByteArray)
 | 0, _, _, _, _, _, _ => none
 | k + 1, x1, x2, x7, x8, x326000, x326001 => if x8 < (x326000.size : Int) then (if 0 ≤ x8 then (if x8 < (x7.length : Int) then (squelchref04_Put.l0 k x1 x2 (x7.set (x8 : Int).toNat ((2 * (bt x326000 x8)) % 256)) (wrap64 (x8 + 1)) x326000 x326001) else (none)) else (none)) else (if x1 = true then (if 6 < (x7.length : Int) then ((some (x7.set (6 : Int).toNat (((rd x7 6) + 128) % 256) : List Int)).bind fun y331 => (if x2 = true then (some (strOfNums (y331.set (6 : Int).toNat (((rd y331 6) + 1) % 256)))) else (some (strOfNums y331)))) else (none)) else (if x2 = true then (if 6 < (x7.length : Int) then (some (strOfNums (x7.set (6 : Int).toNat (((rd x7 6) + 1) % 256)))) else (none)) else (some (strOfNums x7))))
def squelchref04_Put.f (k : Nat) (a0_0 : ByteArray) (a0_1 : Int) (a1 : Bool) (a2 : Bool) : Option (ByteArray) := squelchref04_Put.l0 k a1 a2 (([64, 64, 64, 64, 64, 64, (wrap64 (96 + (wrap64 (2 * a0_1)))) % 256] : List Int)) 0 a0_0 a0_1
end Go.Proofs.YtpmieapgbdbabaaDoor.QAll
end

section
/- Walks, written by a program of this session (wip/pp): a Go function comes to what the Lean function beside it tells. -/
namespace Go.Proofs.YtpmieapgbdbabaaDoor.QAll
open Go.RowKit Go.Proofs.YtpmieapgbdbabaaDoorW.PrintWords Go.Proofs.YtpmieapgbdbabaaDoorW.PrintLast Go.Proofs.YtpmieapgbdbabaaDoorW.PrintMore
attribute [local go_sem] max2_int min2_int max_two min_two max_three min_three max_four min_four
set_option linter.unusedVariables false
set_option linter.unusedSimpArgs false

def squelchref04_Get.l0 : Nat → ByteArray → Int → ByteArray → Int → Option (ByteArray × Int × Bool × Bool × Bool)
 | 0, _, _, _, _ => none
 | k + 1, x0, x7, x338000, x338001 => if x7 < 6 then (if 0 ≤ x7 then (if x7 < (x0.size : Int) then (if (bt x0 x7) = 64 then (squelchref04_Get.l0 k x0 (wrap64 (x7 + 1)) x338000 x338001) else ((some (([(Int.tdiv (bt x0 x7) 2) % 256] : List Int) : List Int)).bind fun y338 => (if x338000.size + (strOfNums y338).size ≤ 9223372036854775807 then (squelchref04_Get.l0 k x0 (wrap64 (x7 + 1)) (x338000 ++ (strOfNums y338)) x338001) else (none)))) else (none)) else (none)) else (if 6 < (x0.size : Int) then ((squelchref04_Right.f k x338000 x338001).bind fun t341 => (if t341 = true then ((squelchref04_Put.f k x338000 x338001 (decide ((bt x0 6) ≥ 128)) ((Int.tmod (bt x0 6) 2) == 1)).bind fun t342 => (if t342.toList = x0.toList then (some (x338000, x338001, decide ((bt x0 6) ≥ 128), ((Int.tmod (bt x0 6) 2) == 1), true)) else (some ((⟨#[]⟩ : ByteArray), 0, false, false, false)))) else (some ((⟨#[]⟩ : ByteArray), 0, false, false, false)))) else (none))
def squelchref04_Get.f (k : Nat) (a0 : ByteArray) : Option (ByteArray × Int × Bool × Bool × Bool) := if (a0.size : Int) = 7 then (if 6 < (a0.size : Int) then (squelchref04_Get.l0 k a0 0 (⟨#[]⟩ : ByteArray) (Int.tmod (wrap64 (Int.tdiv (wrap64 (bt a0 6)) 2)) 16)) else (none)) else (some ((⟨#[]⟩ : ByteArray), 0, false, false, false))
end Go.Proofs.YtpmieapgbdbabaaDoor.QAll
end

section
/- A call's seven bytes, as the reference says them, and the call that is read of seven bytes; over plain strings and numbers. -/
set_option linter.unusedVariables false
namespace Go.Proofs.YtpmieapgbdbabaaDoor.Pure
open Go.RowKit Go.Proofs.YtpmieapgbdbabaaDoor.QAll Go.Proofs.YtpmieapgbdbabaaDoorW.PrintWords Go.Proofs.YtpmieapgbdbabaaDoorW.PrintLast

end Go.Proofs.YtpmieapgbdbabaaDoor.Pure
end

section
/- Walks, written by a program of this session (wip/pp): a Go function comes to what the Lean function beside it tells. -/
namespace Go.Proofs.YtpmieapgbdbabaaDoor.QAll
open Go.RowKit Go.Proofs.YtpmieapgbdbabaaDoorW.PrintWords Go.Proofs.YtpmieapgbdbabaaDoorW.PrintLast Go.Proofs.YtpmieapgbdbabaaDoorW.PrintMore
attribute [local go_sem] max2_int min2_int max_two min_two max_three min_three max_four min_four
set_option linter.unusedVariables false
set_option linter.unusedSimpArgs false

def squelchref05_ordered.l0 : Nat → List (S37) → Int → Option (Bool)
 | 0, _, _ => none
 | k + 1, x0, x3 => if x3 < (x0.length : Int) then (if 0 ≤ x3 then (if (rd_T37 x0 x3).f1 = true then (if 0 ≤ (wrap64 (x3 - 1)) then (if (wrap64 (x3 - 1)) < (x0.length : Int) then (if ((rd_T37 x0 (wrap64 (x3 - 1))).f1 = true) then (squelchref05_ordered.l0 k x0 (wrap64 (x3 + 1))) else (some false)) else (none)) else (none)) else (squelchref05_ordered.l0 k x0 (wrap64 (x3 + 1)))) else (none)) else (some true)
def squelchref05_ordered.f (k : Nat) (l0 : List (S37)) : Option (Bool) := squelchref05_ordered.l0 k l0 3
end Go.Proofs.YtpmieapgbdbabaaDoor.QAll
end

section
/- Walks, written by a program of this session (wip/pp): a Go function comes to what the Lean function beside it tells. -/
namespace Go.Proofs.YtpmieapgbdbabaaDoor.QAll
open Go.RowKit Go.Proofs.YtpmieapgbdbabaaDoorW.PrintWords Go.Proofs.YtpmieapgbdbabaaDoorW.PrintLast Go.Proofs.YtpmieapgbdbabaaDoorW.PrintMore
attribute [local go_sem] max2_int min2_int max_two min_two max_three min_three max_four min_four
set_option linter.unusedVariables false
set_option linter.unusedSimpArgs false

def squelchref05_Get.l0 : Nat → ByteArray → Int → List (S37) → Option ((List (S37)) × Int × Int)
 | 0, _, _, _ => none
 | k + 1, x0, x6, x347000 => if (wrap64 (x6 + 7)) > (x0.size : Int) then (some (([] : List (S37)), 0, 4)) else (if 0 ≤ x6 then (if x6 ≤ (wrap64 (x6 + 7)) then (if (wrap64 (x6 + 7)) ≤ (x0.size : Int) then ((squelchref04_Get.f k (x0.extract (x6 : Int).toNat ((wrap64 (x6 + 7)) : Int).toNat)).bind fun bt347 => (if bt347.2.2.2.2 = true then (if (x347000.length : Int) = 10 then (some (([] : List (S37)), 0, 11)) else (if x347000.length < 4398046511104 then ((some (x347000 ++ [(⟨(⟨bt347.1, bt347.2.1⟩ : S23), bt347.2.2.1⟩ : S37)] : List (S37))).bind fun y353 => (if bt347.2.2.2.1 = true then (if (y353.length : Int) = 1 then (some (([] : List (S37)), 0, 2)) else ((squelchref05_ordered.f k y353).bind fun t356 => (if t356 = true then (some (y353, wrap64 (x6 + 7), 0)) else (some (([] : List (S37)), 0, 11))))) else (squelchref05_Get.l0 k x0 (wrap64 (x6 + 7)) y353))) else (none))) else (some (([] : List (S37)), 0, 2)))) else (none)) else (none)) else (none))
def squelchref05_Get.f (k : Nat) (a0 : ByteArray) : Option ((List (S37)) × Int × Int) := squelchref05_Get.l0 k a0 0 ([] : List (S37))
end Go.Proofs.YtpmieapgbdbabaaDoor.QAll
end

section
/- What the reference of paths tells, over plain lists: the plain form of a path, whether two are alike, the order of the marks, the path of some bytes. -/
set_option linter.unusedVariables false
set_option linter.unusedSimpArgs false
namespace Go.Proofs.YtpmieapgbdbabaaDoor.Pure
open Go.RowKit Go.Proofs.YtpmieapgbdbabaaDoor.QAll Go.Proofs.YtpmieapgbdbabaaDoorW.PrintWords

def mk37 (d : S93) : S37 := ⟨d.f0, d.f1⟩
theorem w64 (x : Int) (h0 : 0 ≤ x) (h1 : x ≤ 4611686018427387904) : wrap64 x = x := by unfold wrap64; omega
theorem plain_at (l : List S93) (hl : l.length ≤ 1000000) : ∀ (d i k : Nat) (acc : List S37), l.length - i ≤ d → d + 1 ≤ k → i ≤ l.length → acc.length ≤ 2000000 + i →
    squelchlaw05_Plain.l0 k l (l.length : Int) (i : Int) acc = some (acc ++ (l.drop i).map mk37)
  | d, i, 0, _, _, hk, _, _ => absurd hk (by omega)
  | d, i, k + 1, acc, hd, hk, hi, ha => by
    rw [squelchlaw05_Plain.l0]
    by_cases h : i < l.length
    · obtain ⟨d', rfl⟩ : ∃ d', d = d' + 1 := ⟨d - 1, by omega⟩
      rw [if_pos (by omega), if_pos (by omega), if_pos (by omega), if_pos (by omega), show wrap64 ((i : Int) + 1) = ((i + 1 : Nat) : Int) by rw [w64 _ (by omega) (by omega)]; omega,
        plain_at l hl d' (i + 1) k _ (by omega) (by omega) (by omega) (by simp; omega), drop_T93 l i h]
      simp [mk37]
    · rw [if_neg (by omega), List.drop_eq_nil_of_le (by omega)]
      simp
theorem plain_f (a0 : ByteArray) (a1 : Int) (a2 : ByteArray) (a3 : Int) (a4 a5 : Bool) (l : List S93) (hl : l.length ≤ 1000000) (k : Nat) (hk : l.length + 1 ≤ k) :
    squelchlaw05_Plain.f k a0 a1 a2 a3 a4 a5 l = some ((⟨⟨a0, a1⟩, a4⟩ : S37) :: (⟨⟨a2, a3⟩, a5⟩ : S37) :: l.map mk37) := by
  unfold squelchlaw05_Plain.f
  have := plain_at l hl l.length 0 k [(⟨(⟨a0, a1⟩ : S23), a4⟩ : S37), (⟨(⟨a2, a3⟩ : S23), a5⟩ : S37)] (by omega) hk (by omega) (by simp)
  rw [List.drop_zero] at this
  exact this
theorem same_at (l : List S37) (hl : l.length ≤ 2000000) : ∀ (d i k : Nat), l.length - i ≤ d → d + 1 ≤ k → i ≤ l.length → squelchref05_Same.l0 k (i : Int) l l = some true
  | d, i, 0, _, hk, _ => absurd hk (by omega)
  | d, i, k + 1, hd, hk, hi => by
    rw [squelchref05_Same.l0]
    by_cases h : i < l.length
    · obtain ⟨d', rfl⟩ : ∃ d', d = d' + 1 := ⟨d - 1, by omega⟩
      rw [if_pos (by omega), if_pos (by omega), if_pos (by omega), show wrap64 ((i : Int) + 1) = ((i + 1 : Nat) : Int) by rw [w64 _ (by omega) (by omega)]; omega, if_neg (by simp)]
      exact same_at l hl d' (i + 1) k (by omega) (by omega) (by omega)
    · rw [if_neg (by omega)]
theorem same_f (l : List S37) (hl : l.length ≤ 2000000) (k : Nat) (hk : l.length + 1 ≤ k) : squelchref05_Same.f k l l = some true := by
  unfold squelchref05_Same.f
  rw [if_pos rfl]
  exact same_at l hl l.length 0 k (by omega) hk (by omega)
theorem rd37 (a b : S37) (D : List S93) (j : Nat) (hj : j < D.length) : rd_T37 (a :: b :: D.map mk37) ((j + 2 : Nat) : Int) = mk37 (rd_T93 D (j : Int)) := by
  unfold rd_T37 rd_T93
  rw [Int.toNat_natCast, Int.toNat_natCast, List.getD_eq_getElem?_getD, List.getD_eq_getElem?_getD]
  simp [hj]
/-- A list of two and more, by its first two. -/
theorem two_of (L : List S93) (h : 2 ≤ L.length) : ∃ x y D, L = x :: y :: D := by
  match L, h with
  | x :: y :: D, _ => exact ⟨x, y, D, rfl⟩
end Go.Proofs.YtpmieapgbdbabaaDoor.Pure
end

section
/- From a row's listed variables, and the world's shape, to what the walks ask of the package's variables; and the wrap of a row that hands on both. -/
set_option linter.unusedVariables false
namespace Go.Proofs.YtpmieapgbdbabaaDoor.QAll
open Go.RowKit Go.Lib

/-- The wrap of a row that lists variables, with the reach, the listed variables and the world's shape handed on. -/
theorem returns_laid_shaped {H : Type} {enc : TypeId × Value → H} {a : Assume} {C : Checked} {os : Os} {f : FuncId} {fn : Func} {s : ChangeSpec} {conds : List PathCond} {apart fresh handsOn again : Bool} {l : List (String × DataW Unit)}
    (own : ownKnob C.prog.godebug = none) (started : os.Started) (noInit : C.prog.inits.idxOf? f = none) (hfn : C.prog.funcs[f]? = some fn)
    (witness : ∃ (w : World) (tape : Tape) (i : Input), w.os = os ∧ (w.forCall tape i).Shaped C.prog ∧ i.vars = [] ∧ Input.okWide C.prog (w.forCall tape i) .any w.heap.size f i ∧
      ((s.pre enc C.prog fn conds apart (w.forCall tape i).memory i.args ∧ laidMetH C.prog l (w.forCall tape i).memory) ∧ sizedMet enc C.prog fn (OpenSpec.ofChange s) apart (w.forCall tape i).memory i.args) ∧ a.holds C.prog (lone (Frame.enter C.prog f i.args .normal) [] (w.forCall tape i)))
    (contract : ∀ (W : World) (base : Nat) (args : Array Value) (ds gs : List (DataW H)) (before : List MemPlace),
      (∀ (j : Nat) t v, fn.params[j]? = some t → args[j]? = some v → Value.okWide C.prog W .any base t v) →
      DataW.Whole enc C.prog fn.params.toList s.vars apart W args.toList ds gs before →
      conds.all (PathCond.test C.prog ⟨fn.params.toList, ds, s.plain.varTypes C.prog, gs⟩) = true →
      (DataW.weightsEach C.prog (fn.params.toList ++ s.plain.varTypes C.prog) (ds ++ gs)).all (· ≤ reachBytes) = true → laidMetH C.prog l W → W.ShapedOpen C.prog →
      Calls C.prog f args W fun e W' => ∃ v, e = .returned v ∧ s.post enc C.prog fn apart fresh handsOn again W args v W') :
    ReturnsInHanded a C os f .any (fun w args => (s.pre enc C.prog fn conds apart w args ∧ laidMetH C.prog l w) ∧ sizedMet enc C.prog fn (OpenSpec.ofChange s) apart w args) (s.post enc C.prog fn apart fresh handsOn again) := by
  refine returnsInHanded_of_calls own started noInit witness ?_
  intro w tape i _ hsh _ hok hpre hholds
  obtain ⟨_, _, _, fn', hfn', _, _, _, _, hval⟩ := hok
  have e : fn' = fn := Option.some.inj (hfn'.symm.trans hfn)
  subst e
  obtain ⟨⟨⟨ds, gs, before, hw, hc⟩, hx⟩, hz⟩ := hpre
  have hw' := DataW.Whole.of_heap (w' := w.forCall tape i) (by rfl) hw
  refine (contract (w.forCall tape i) w.heap.size i.args ds gs before hval hw' hc (hz.weights hw) (laidMetH.of_heap (by rfl) hx) hsh).mono fun e W' ⟨v, he, hp⟩ => ?_
  subst he
  exact ChangeSpec.post_blind hp
end Go.Proofs.YtpmieapgbdbabaaDoor.QAll
end

section
/- A slice that came in, laid open: its elements as a list, read as the walks read them. -/
set_option linter.unusedVariables false
namespace Go.Proofs.YtpmieapgbdbabaaDoor.QAll
open Go.ChangeShapes Go.WideShapes Go.Deep Go.Proofs.YtpmieapgbdbabaaDoorW.PrintWords
theorem list_of {α : Type} {Pr : Nat → α → Prop} : ∀ n : Nat, (∀ i, i < n → ∃ a, Pr i a) → ∃ l : List α, l.length = n ∧ ∀ i a, l[i]? = some a → Pr i a
  | 0, _ => ⟨[], rfl, fun i a h => by simp at h⟩
  | n + 1, h => by
    obtain ⟨l, hl, hp⟩ := list_of n (fun i hi => h i (by omega))
    obtain ⟨a, ha⟩ := h n (by omega)
    refine ⟨l ++ [a], by simp [hl], fun i b hb => ?_⟩
    by_cases hi : i < n
    · rw [List.getElem?_append_left (by omega)] at hb
      exact hp i b hb
    · by_cases he : i = n
      · subst he
        rw [← hl] at hb
        simp at hb
        subst hb
        exact ha
      · rw [List.getElem?_eq_none (by simp; omega)] at hb
        cases hb
theorem rows_of_trod {α H : Type} {enc : TypeId × Value → H} {P : Program} {w : World} {t e : TypeId} {fuel : Nat} {cs : List Value} {x : DataW H × List MemPlace} (d : Kd α) (ht : P.underlying t = some (.slice e)) (hC : P.cellsOf e = d.sz) (F : α → Prop)
    (hel : ∀ (n : Nat) (cs' : List Value) (y : DataW H × List MemPlace), DataW.trod enc P w 0 (fun _ => true) true n e cs' = some y → ∃ a, d.K w a cs' ∧ cs'.length = d.sz ∧ F a)
    (h : DataW.trod enc P w 0 (fun _ => true) true fuel t cs = some x) : ∃ (A : Option Addr) (c : Nat) (l : List α), cs = [.slice A l.length c] ∧ d.C w A l.length l ∧ l.length ≤ c ∧ ∀ a ∈ l, F a := by
  rcases open_slice ht h with ⟨rfl, _⟩ | ⟨a, len, cap, m, n, D, Pl, hcs, hb, hl, hm, hmm, hx, hi⟩
  · exact ⟨none, 0, [], rfl, Kd.C_nil d w, Nat.le_refl _, fun a h => by cases h⟩
  · have hml : len ≤ m := by rw [hmm]; simpa using hl
    obtain ⟨l, hll, hp⟩ := list_of (Pr := fun i b => F b ∧ ∃ c, c.length = d.sz ∧ d.K w b c ∧ ∀ j u, c[j]? = some u → w.cell? (a.add (i * d.sz + j)) = some u) len (fun i hil => by
      obtain ⟨cs', hc, ht'⟩ := hi i (by omega)
      obtain ⟨b, hK, hlen, hF⟩ := hel n cs' _ ht'
      obtain ⟨_, hcl, hat⟩ := World.cells?_some hc
      refine ⟨b, hF, cs', hlen, hK, fun j u hu => ?_⟩
      have hj : j < cs'.length := (List.getElem?_eq_some_iff.1 hu).1
      have := hat j (by omega)
      rw [hC] at this
      rw [← Go.Deep.add_add, this, hu])
    refine ⟨some a, cap, l, by rw [hcs, hll], ⟨rfl, ?_, fun _ => ⟨a, rfl, fun j p hjp => (hp j p hjp).2⟩⟩, by omega, fun b hb' => ?_⟩
    · have : maxLen = 9223372036854775807 := rfl
      omega
    · obtain ⟨i, hi', rfl⟩ := List.getElem_of_mem hb'
      exact (hp i _ (List.getElem?_eq_getElem hi')).1
end Go.Proofs.YtpmieapgbdbabaaDoor.QAll
end
