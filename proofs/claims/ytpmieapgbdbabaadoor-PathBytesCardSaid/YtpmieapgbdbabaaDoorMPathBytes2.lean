/- Words, walks and plain laws that the row of the law PathBytes rests on. -/
import Derived.Test.YtpmieapgbdbabaaDoorMPathBytes0
import Derived.Test.YtpmieapgbdbabaaDoorMPathBytes1
import Derived.Deep.CutBlock
import Derived.Deep.RegionWith
import Derived.RegionTactic
import Derived.WalkSpells
import Derived.ScopeJumps
import Derived.Laws.DeepStrings4
import Derived.Lib.IndexLaws
import Derived.KernelRfl
import Derived.Test.YtpmieapgbdbabaaDoorRows
import Derived.Lib.LaidU8
import Derived.Lay
import Derived.Handed
import Derived.SizedLaws
import Derived.LaidLaws
import Derived.Shelf.Vars
import Derived.LaidHandle
import Derived.Stop.Joined
import Derived.Deep.Slices
import Derived.Deep.Fields
import Derived.ChangeSame
section
/- Walks, written by a program of this session (wip/pp): a Go function comes to what the Lean function beside it tells. -/
namespace Go.Proofs.YtpmieapgbdbabaaDoor.QAll
open Go.RowKit Go.Proofs.YtpmieapgbdbabaaDoorW.PrintWords Go.Proofs.YtpmieapgbdbabaaDoorW.PrintLast Go.Proofs.YtpmieapgbdbabaaDoorW.PrintMore
attribute [local go_sem] max2_int min2_int max_two min_two max_three min_three max_four min_four
set_option linter.unusedVariables false
set_option linter.unusedSimpArgs false

def call_Text.f (a0_0 : ByteArray) (a0_1 : Int) : Option (ByteArray) := (call_Right.f a0_0 a0_1).bind fun t146 => (if t146 = true then (if a0_1 = 0 then (some a0_0) else (if a0_0.size + 1 ≤ 9223372036854775807 then ((strconv_Itoa_69.f a0_1).bind fun t147 => (if (a0_0 ++ (⟨#[45]⟩ : ByteArray)).size + t147.size ≤ 9223372036854775807 then (some ((a0_0 ++ (⟨#[45]⟩ : ByteArray)) ++ t147)) else (none))) else (none))) else (some (⟨#[]⟩ : ByteArray)))
set_option maxHeartbeats 8000000 in
set_option maxRecDepth 100000 in
theorem call_Text.calls (a0_0 : ByteArray) (a0_1 : Int) (r : ByteArray) (w : World) (h : call_Text.f a0_0 a0_1 = some r) :
  Calls Tryd.prog 41 #[.agg #[.string a0_0, .int .i64 a0_1]] w fun e w' => e = .returned (.string r) ∧ Below w.heap.size w w' := by
 have hu23 := Tryd.underlying23
 have HB := Aside0.mk (Below.refl w.heap.size w)
 have H : ((call_Right.f a0_0 a0_1).bind fun t146 => (if t146 = true then (if a0_1 = 0 then (some a0_0) else (if a0_0.size + 1 ≤ 9223372036854775807 then ((strconv_Itoa_69.f a0_1).bind fun t147 => (if (a0_0 ++ (⟨#[45]⟩ : ByteArray)).size + t147.size ≤ 9223372036854775807 then (some ((a0_0 ++ (⟨#[45]⟩ : ByteArray)) ++ t147)) else (none))) else (none))) else (some (⟨#[]⟩ : ByteArray)))) = some r := h
 clear h
 replace H := Option.bind_eq_some_iff.mp H
 obtain ⟨t146, A20, H⟩ := H
 replace H : (if t146 = true then (if a0_1 = 0 then (some a0_0) else (if a0_0.size + 1 ≤ 9223372036854775807 then ((strconv_Itoa_69.f a0_1).bind fun t147 => (if (a0_0 ++ (⟨#[45]⟩ : ByteArray)).size + t147.size ≤ 9223372036854775807 then (some ((a0_0 ++ (⟨#[45]⟩ : ByteArray)) ++ t147)) else (none))) else (none))) else (some (⟨#[]⟩ : ByteArray))) = some r := H
 have A2 := Aside0.mk A20
 clear A20
 by_cases c3 : t146 = true
 ·subst c3
  have H1 : (if a0_1 = 0 then (some a0_0) else (if a0_0.size + 1 ≤ 9223372036854775807 then ((strconv_Itoa_69.f a0_1).bind fun t147 => (if (a0_0 ++ (⟨#[45]⟩ : ByteArray)).size + t147.size ≤ 9223372036854775807 then (some ((a0_0 ++ (⟨#[45]⟩ : ByteArray)) ++ t147)) else (none))) else (none))) = some r := by rw [if_pos rfl] at H; exact H
  clear H
  have H := H1
  clear H1
  by_cases c4 : a0_1 = 0
  ·rw [if_pos c4] at H
   have c4b0 : (a0_1 == 0) = true := beq_iff_eq.mpr c4
   have c4b1 : (a0_1 != 0) = false := bne_eq_false_iff_eq.mpr c4
   clear c4
   obtain rfl := Option.some.inj H
   go_enter Tryd.func41, Tryd.ntmps41
   go_wp2_with (first | ((with_reducible refine gate_dst (N := 1) rfl ?_); refine box_event ?hg (N := 1) ?hd (cs := #[.string a0_0, .int .i64 a0_1]) (t := 23) ?hr ?_; (case hd => rfl); (case hg => rfl); (case hr => first | (go_simp; done) | (go_simp; rfl)); intro gb145 hg w5 hbox hb; have n0_ := Aside0.mk (below_step (by repeat (first | (with_reducible first | exact HB.out | apply below_alloc | apply pw_below_drewN | apply below_drew1) | exact HB.out)) hb); have n1_ := Aside0.mk (hbox); have n2_ := Aside0.mk ((by rw [hg]; exact (below_size (by repeat (first | (with_reducible first | exact HB.out | apply below_alloc | apply pw_below_drewN | apply below_drew1) | exact HB.out))) : w.heap.size ≤ gb145)); have n3_ := Aside0.mk ((by rw [hg]; exact (below_size (by repeat (first | (with_reducible first | exact HB.out | apply below_alloc | apply pw_below_drewN | apply below_drew1) | exact HB.out))) : w.heap.size ≤ gb145)); clear HB; have HB := n0_; have BK145 := n1_; have GW145 := n2_; have GE145 := n3_; clear n0_ n1_ n2_ n3_; clear hb hbox hg; have hcz6_0 : w5.cell? ⟨gb145, 0, none⟩ = some (.string a0_0) := (blk_cell BK145.out 0).trans rfl; have hcz6_1 : w5.cell? ⟨gb145, 1, none⟩ = some (.int .i64 a0_1) := (blk_cell BK145.out 1).trans rfl; have hfz6_0 := blk_frozen BK145.out 0; have hfz6_1 := blk_frozen BK145.out 1) | (go_at_call 40; (with_reducible refine (call_Right.calls a0_0 a0_1 true _ A2.out).mono ?_); rintro e w7 ⟨rfl, hb⟩; have n0_ := Aside0.mk (blk_below (g := gb145) (o := .cells #[.string a0_0, .int .i64 a0_1] 23 (0, 0)) (by (with_reducible repeat (first | refine blk_drewN ?_ _ | refine blk_drew ?_ | refine blk_alloc ?_ _)); exact BK145.out) hb); have n1_ := Aside0.mk (below_step (by repeat (first | (with_reducible first | exact HB.out | apply below_alloc | apply pw_below_drewN | apply below_drew1 | refine below_set ?_ GE145.out) | exact HB.out)) hb); clear BK145; clear HB; have BK145 := n0_; have HB := n1_; clear n0_ n1_; (try clear hb); (try clear hb2); (try clear hk); (try clear hi); have hcz8_0 : w7.cell? ⟨gb145, 0, none⟩ = some (.string a0_0) := (blk_cell BK145.out 0).trans rfl; have hcz8_1 : w7.cell? ⟨gb145, 1, none⟩ = some (.int .i64 a0_1) := (blk_cell BK145.out 1).trans rfl; have hfz8_0 := blk_frozen BK145.out 0; have hfz8_1 := blk_frozen BK145.out 1))
   repeat (go_quiet (first | ((with_reducible refine gate_dst (N := 1) rfl ?_); refine box_event ?hg (N := 1) ?hd (cs := #[.string a0_0, .int .i64 a0_1]) (t := 23) ?hr ?_; (case hd => rfl); (case hg => rfl); (case hr => first | (go_simp; done) | (go_simp; rfl)); intro gb145 hg w5 hbox hb; have n0_ := Aside0.mk (below_step (by repeat (first | (with_reducible first | exact HB.out | apply below_alloc | apply pw_below_drewN | apply below_drew1) | exact HB.out)) hb); have n1_ := Aside0.mk (hbox); have n2_ := Aside0.mk ((by rw [hg]; exact (below_size (by repeat (first | (with_reducible first | exact HB.out | apply below_alloc | apply pw_below_drewN | apply below_drew1) | exact HB.out))) : w.heap.size ≤ gb145)); have n3_ := Aside0.mk ((by rw [hg]; exact (below_size (by repeat (first | (with_reducible first | exact HB.out | apply below_alloc | apply pw_below_drewN | apply below_drew1) | exact HB.out))) : w.heap.size ≤ gb145)); clear HB; have HB := n0_; have BK145 := n1_; have GW145 := n2_; have GE145 := n3_; clear n0_ n1_ n2_ n3_; clear hb hbox hg; have hcz6_0 : w5.cell? ⟨gb145, 0, none⟩ = some (.string a0_0) := (blk_cell BK145.out 0).trans rfl; have hcz6_1 : w5.cell? ⟨gb145, 1, none⟩ = some (.int .i64 a0_1) := (blk_cell BK145.out 1).trans rfl; have hfz6_0 := blk_frozen BK145.out 0; have hfz6_1 := blk_frozen BK145.out 1) | (go_at_call 40; (with_reducible refine (call_Right.calls a0_0 a0_1 true _ A2.out).mono ?_); rintro e w7 ⟨rfl, hb⟩; have n0_ := Aside0.mk (blk_below (g := gb145) (o := .cells #[.string a0_0, .int .i64 a0_1] 23 (0, 0)) (by (with_reducible repeat (first | refine blk_drewN ?_ _ | refine blk_drew ?_ | refine blk_alloc ?_ _)); exact BK145.out) hb); have n1_ := Aside0.mk (below_step (by repeat (first | (with_reducible first | exact HB.out | apply below_alloc | apply pw_below_drewN | apply below_drew1 | refine below_set ?_ GE145.out) | exact HB.out)) hb); clear BK145; clear HB; have BK145 := n0_; have HB := n1_; clear n0_ n1_; (try clear hb); (try clear hb2); (try clear hk); (try clear hi); have hcz8_0 : w7.cell? ⟨gb145, 0, none⟩ = some (.string a0_0) := (blk_cell BK145.out 0).trans rfl; have hcz8_1 : w7.cell? ⟨gb145, 1, none⟩ = some (.int .i64 a0_1) := (blk_cell BK145.out 1).trans rfl; have hfz8_0 := blk_frozen BK145.out 0; have hfz8_1 := blk_frozen BK145.out 1)); try go_wp2_with (first | ((with_reducible refine gate_dst (N := 1) rfl ?_); refine box_event ?hg (N := 1) ?hd (cs := #[.string a0_0, .int .i64 a0_1]) (t := 23) ?hr ?_; (case hd => rfl); (case hg => rfl); (case hr => first | (go_simp; done) | (go_simp; rfl)); intro gb145 hg w5 hbox hb; have n0_ := Aside0.mk (below_step (by repeat (first | (with_reducible first | exact HB.out | apply below_alloc | apply pw_below_drewN | apply below_drew1) | exact HB.out)) hb); have n1_ := Aside0.mk (hbox); have n2_ := Aside0.mk ((by rw [hg]; exact (below_size (by repeat (first | (with_reducible first | exact HB.out | apply below_alloc | apply pw_below_drewN | apply below_drew1) | exact HB.out))) : w.heap.size ≤ gb145)); have n3_ := Aside0.mk ((by rw [hg]; exact (below_size (by repeat (first | (with_reducible first | exact HB.out | apply below_alloc | apply pw_below_drewN | apply below_drew1) | exact HB.out))) : w.heap.size ≤ gb145)); clear HB; have HB := n0_; have BK145 := n1_; have GW145 := n2_; have GE145 := n3_; clear n0_ n1_ n2_ n3_; clear hb hbox hg; have hcz6_0 : w5.cell? ⟨gb145, 0, none⟩ = some (.string a0_0) := (blk_cell BK145.out 0).trans rfl; have hcz6_1 : w5.cell? ⟨gb145, 1, none⟩ = some (.int .i64 a0_1) := (blk_cell BK145.out 1).trans rfl; have hfz6_0 := blk_frozen BK145.out 0; have hfz6_1 := blk_frozen BK145.out 1) | (go_at_call 40; (with_reducible refine (call_Right.calls a0_0 a0_1 true _ A2.out).mono ?_); rintro e w7 ⟨rfl, hb⟩; have n0_ := Aside0.mk (blk_below (g := gb145) (o := .cells #[.string a0_0, .int .i64 a0_1] 23 (0, 0)) (by (with_reducible repeat (first | refine blk_drewN ?_ _ | refine blk_drew ?_ | refine blk_alloc ?_ _)); exact BK145.out) hb); have n1_ := Aside0.mk (below_step (by repeat (first | (with_reducible first | exact HB.out | apply below_alloc | apply pw_below_drewN | apply below_drew1 | refine below_set ?_ GE145.out) | exact HB.out)) hb); clear BK145; clear HB; have BK145 := n0_; have HB := n1_; clear n0_ n1_; (try clear hb); (try clear hb2); (try clear hk); (try clear hi); have hcz8_0 : w7.cell? ⟨gb145, 0, none⟩ = some (.string a0_0) := (blk_cell BK145.out 0).trans rfl; have hcz8_1 : w7.cell? ⟨gb145, 1, none⟩ = some (.int .i64 a0_1) := (blk_cell BK145.out 1).trans rfl; have hfz8_0 := blk_frozen BK145.out 0; have hfz8_1 := blk_frozen BK145.out 1)))
   go_ret
   exact ⟨by first | rfl | (simp [errW_none, errW_some] <;> rfl) | (simp [*, errW_none, errW_some] <;> rfl), by repeat (first | (with_reducible first | exact HB.out | apply below_alloc | apply pw_below_drewN | apply below_drew1 | refine below_set ?_ GE145.out) | exact HB.out)⟩
  ·rw [if_neg c4] at H
   have c4b0 : (a0_1 == 0) = false := beq_eq_false_iff_ne.mpr c4
   have c4b1 : (a0_1 != 0) = true := bne_iff_ne.mpr c4
   by_cases c9 : a0_0.size + 1 ≤ 9223372036854775807
   ·rw [if_pos c9] at H
    have c9b0 := eq_true c9
    have c9b1 : decide (a0_0.size + 1 ≤ 9223372036854775807) = true := decide_eq_true c9
    try have c9b2 : (9223372036854775807 < a0_0.size + 1) = False := eq_false (Nat.not_lt.2 c9)
    replace H := Option.bind_eq_some_iff.mp H
    obtain ⟨t147, A100, H⟩ := H
    replace H : (if (a0_0 ++ (⟨#[45]⟩ : ByteArray)).size + t147.size ≤ 9223372036854775807 then (some ((a0_0 ++ (⟨#[45]⟩ : ByteArray)) ++ t147)) else (none)) = some r := H
    have A10 := Aside0.mk A100
    clear A100
    by_cases c11 : (a0_0 ++ (⟨#[45]⟩ : ByteArray)).size + t147.size ≤ 9223372036854775807
    ·rw [if_pos c11] at H
     have c11b0 := eq_true c11
     have c11b1 : decide ((a0_0 ++ (⟨#[45]⟩ : ByteArray)).size + t147.size ≤ 9223372036854775807) = true := decide_eq_true c11
     try have c11b2 : (9223372036854775807 < (a0_0 ++ (⟨#[45]⟩ : ByteArray)).size + t147.size) = False := eq_false (Nat.not_lt.2 c11)
     obtain rfl := Option.some.inj H
     go_enter Tryd.func41, Tryd.ntmps41
     go_wp2_with (first | ((with_reducible refine gate_dst (N := 1) rfl ?_); refine box_event ?hg (N := 1) ?hd (cs := #[.string a0_0, .int .i64 a0_1]) (t := 23) ?hr ?_; (case hd => rfl); (case hg => rfl); (case hr => first | (go_simp; done) | (go_simp; rfl)); intro gb145 hg w12 hbox hb; have n0_ := Aside0.mk (below_step (by repeat (first | (with_reducible first | exact HB.out | apply below_alloc | apply pw_below_drewN | apply below_drew1) | exact HB.out)) hb); have n1_ := Aside0.mk (hbox); have n2_ := Aside0.mk ((by rw [hg]; exact (below_size (by repeat (first | (with_reducible first | exact HB.out | apply below_alloc | apply pw_below_drewN | apply below_drew1) | exact HB.out))) : w.heap.size ≤ gb145)); have n3_ := Aside0.mk ((by rw [hg]; exact (below_size (by repeat (first | (with_reducible first | exact HB.out | apply below_alloc | apply pw_below_drewN | apply below_drew1) | exact HB.out))) : w.heap.size ≤ gb145)); clear HB; have HB := n0_; have BK145 := n1_; have GW145 := n2_; have GE145 := n3_; clear n0_ n1_ n2_ n3_; clear hb hbox hg; have hcz13_0 : w12.cell? ⟨gb145, 0, none⟩ = some (.string a0_0) := (blk_cell BK145.out 0).trans rfl; have hcz13_1 : w12.cell? ⟨gb145, 1, none⟩ = some (.int .i64 a0_1) := (blk_cell BK145.out 1).trans rfl; have hfz13_0 := blk_frozen BK145.out 0; have hfz13_1 := blk_frozen BK145.out 1) | (go_at_call 40; (with_reducible refine (call_Right.calls a0_0 a0_1 true _ A2.out).mono ?_); rintro e w14 ⟨rfl, hb⟩; have n0_ := Aside0.mk (blk_below (g := gb145) (o := .cells #[.string a0_0, .int .i64 a0_1] 23 (0, 0)) (by (with_reducible repeat (first | refine blk_drewN ?_ _ | refine blk_drew ?_ | refine blk_alloc ?_ _)); exact BK145.out) hb); have n1_ := Aside0.mk (below_step (by repeat (first | (with_reducible first | exact HB.out | apply below_alloc | apply pw_below_drewN | apply below_drew1 | refine below_set ?_ GE145.out) | exact HB.out)) hb); clear BK145; clear HB; have BK145 := n0_; have HB := n1_; clear n0_ n1_; (try clear hb); (try clear hb2); (try clear hk); (try clear hi); have hcz15_0 : w14.cell? ⟨gb145, 0, none⟩ = some (.string a0_0) := (blk_cell BK145.out 0).trans rfl; have hcz15_1 : w14.cell? ⟨gb145, 1, none⟩ = some (.int .i64 a0_1) := (blk_cell BK145.out 1).trans rfl; have hfz15_0 := blk_frozen BK145.out 0; have hfz15_1 := blk_frozen BK145.out 1) | (go_at_call 69; (with_reducible refine (strconv_Itoa_69.calls a0_1 t147 _ A10.out).mono ?_); rintro e w' ⟨rfl, ⟨nd, rfl⟩⟩; (try first | exact ⟨rfl, _, World.drewN_drewN _ _ _⟩ | exact ⟨rfl, _, Eq.trans (World.drewN_drewN _ _ _) (congrArg (World.drewN _) (Nat.add_assoc _ _ _))⟩)))
     repeat (go_quiet (first | ((with_reducible refine gate_dst (N := 1) rfl ?_); refine box_event ?hg (N := 1) ?hd (cs := #[.string a0_0, .int .i64 a0_1]) (t := 23) ?hr ?_; (case hd => rfl); (case hg => rfl); (case hr => first | (go_simp; done) | (go_simp; rfl)); intro gb145 hg w12 hbox hb; have n0_ := Aside0.mk (below_step (by repeat (first | (with_reducible first | exact HB.out | apply below_alloc | apply pw_below_drewN | apply below_drew1) | exact HB.out)) hb); have n1_ := Aside0.mk (hbox); have n2_ := Aside0.mk ((by rw [hg]; exact (below_size (by repeat (first | (with_reducible first | exact HB.out | apply below_alloc | apply pw_below_drewN | apply below_drew1) | exact HB.out))) : w.heap.size ≤ gb145)); have n3_ := Aside0.mk ((by rw [hg]; exact (below_size (by repeat (first | (with_reducible first | exact HB.out | apply below_alloc | apply pw_below_drewN | apply below_drew1) | exact HB.out))) : w.heap.size ≤ gb145)); clear HB; have HB := n0_; have BK145 := n1_; have GW145 := n2_; have GE145 := n3_; clear n0_ n1_ n2_ n3_; clear hb hbox hg; have hcz13_0 : w12.cell? ⟨gb145, 0, none⟩ = some (.string a0_0) := (blk_cell BK145.out 0).trans rfl; have hcz13_1 : w12.cell? ⟨gb145, 1, none⟩ = some (.int .i64 a0_1) := (blk_cell BK145.out 1).trans rfl; have hfz13_0 := blk_frozen BK145.out 0; have hfz13_1 := blk_frozen BK145.out 1) | (go_at_call 40; (with_reducible refine (call_Right.calls a0_0 a0_1 true _ A2.out).mono ?_); rintro e w14 ⟨rfl, hb⟩; have n0_ := Aside0.mk (blk_below (g := gb145) (o := .cells #[.string a0_0, .int .i64 a0_1] 23 (0, 0)) (by (with_reducible repeat (first | refine blk_drewN ?_ _ | refine blk_drew ?_ | refine blk_alloc ?_ _)); exact BK145.out) hb); have n1_ := Aside0.mk (below_step (by repeat (first | (with_reducible first | exact HB.out | apply below_alloc | apply pw_below_drewN | apply below_drew1 | refine below_set ?_ GE145.out) | exact HB.out)) hb); clear BK145; clear HB; have BK145 := n0_; have HB := n1_; clear n0_ n1_; (try clear hb); (try clear hb2); (try clear hk); (try clear hi); have hcz15_0 : w14.cell? ⟨gb145, 0, none⟩ = some (.string a0_0) := (blk_cell BK145.out 0).trans rfl; have hcz15_1 : w14.cell? ⟨gb145, 1, none⟩ = some (.int .i64 a0_1) := (blk_cell BK145.out 1).trans rfl; have hfz15_0 := blk_frozen BK145.out 0; have hfz15_1 := blk_frozen BK145.out 1) | (go_at_call 69; (with_reducible refine (strconv_Itoa_69.calls a0_1 t147 _ A10.out).mono ?_); rintro e w' ⟨rfl, ⟨nd, rfl⟩⟩; (try first | exact ⟨rfl, _, World.drewN_drewN _ _ _⟩ | exact ⟨rfl, _, Eq.trans (World.drewN_drewN _ _ _) (congrArg (World.drewN _) (Nat.add_assoc _ _ _))⟩))); try go_wp2_with (first | ((with_reducible refine gate_dst (N := 1) rfl ?_); refine box_event ?hg (N := 1) ?hd (cs := #[.string a0_0, .int .i64 a0_1]) (t := 23) ?hr ?_; (case hd => rfl); (case hg => rfl); (case hr => first | (go_simp; done) | (go_simp; rfl)); intro gb145 hg w12 hbox hb; have n0_ := Aside0.mk (below_step (by repeat (first | (with_reducible first | exact HB.out | apply below_alloc | apply pw_below_drewN | apply below_drew1) | exact HB.out)) hb); have n1_ := Aside0.mk (hbox); have n2_ := Aside0.mk ((by rw [hg]; exact (below_size (by repeat (first | (with_reducible first | exact HB.out | apply below_alloc | apply pw_below_drewN | apply below_drew1) | exact HB.out))) : w.heap.size ≤ gb145)); have n3_ := Aside0.mk ((by rw [hg]; exact (below_size (by repeat (first | (with_reducible first | exact HB.out | apply below_alloc | apply pw_below_drewN | apply below_drew1) | exact HB.out))) : w.heap.size ≤ gb145)); clear HB; have HB := n0_; have BK145 := n1_; have GW145 := n2_; have GE145 := n3_; clear n0_ n1_ n2_ n3_; clear hb hbox hg; have hcz13_0 : w12.cell? ⟨gb145, 0, none⟩ = some (.string a0_0) := (blk_cell BK145.out 0).trans rfl; have hcz13_1 : w12.cell? ⟨gb145, 1, none⟩ = some (.int .i64 a0_1) := (blk_cell BK145.out 1).trans rfl; have hfz13_0 := blk_frozen BK145.out 0; have hfz13_1 := blk_frozen BK145.out 1) | (go_at_call 40; (with_reducible refine (call_Right.calls a0_0 a0_1 true _ A2.out).mono ?_); rintro e w14 ⟨rfl, hb⟩; have n0_ := Aside0.mk (blk_below (g := gb145) (o := .cells #[.string a0_0, .int .i64 a0_1] 23 (0, 0)) (by (with_reducible repeat (first | refine blk_drewN ?_ _ | refine blk_drew ?_ | refine blk_alloc ?_ _)); exact BK145.out) hb); have n1_ := Aside0.mk (below_step (by repeat (first | (with_reducible first | exact HB.out | apply below_alloc | apply pw_below_drewN | apply below_drew1 | refine below_set ?_ GE145.out) | exact HB.out)) hb); clear BK145; clear HB; have BK145 := n0_; have HB := n1_; clear n0_ n1_; (try clear hb); (try clear hb2); (try clear hk); (try clear hi); have hcz15_0 : w14.cell? ⟨gb145, 0, none⟩ = some (.string a0_0) := (blk_cell BK145.out 0).trans rfl; have hcz15_1 : w14.cell? ⟨gb145, 1, none⟩ = some (.int .i64 a0_1) := (blk_cell BK145.out 1).trans rfl; have hfz15_0 := blk_frozen BK145.out 0; have hfz15_1 := blk_frozen BK145.out 1) | (go_at_call 69; (with_reducible refine (strconv_Itoa_69.calls a0_1 t147 _ A10.out).mono ?_); rintro e w' ⟨rfl, ⟨nd, rfl⟩⟩; (try first | exact ⟨rfl, _, World.drewN_drewN _ _ _⟩ | exact ⟨rfl, _, Eq.trans (World.drewN_drewN _ _ _) (congrArg (World.drewN _) (Nat.add_assoc _ _ _))⟩))))
     go_ret
     exact ⟨by first | rfl | (simp [errW_none, errW_some] <;> rfl) | (simp [*, errW_none, errW_some] <;> rfl), by repeat (first | (with_reducible first | exact HB.out | apply below_alloc | apply pw_below_drewN | apply below_drew1 | refine below_set ?_ GE145.out) | exact HB.out)⟩
    ·rw [if_neg c11] at H
     exact absurd H (by simp)
   ·rw [if_neg c9] at H
    exact absurd H (by simp)
 ·replace c3 := Bool.eq_false_iff.mpr c3
  subst c3
  have H1 : (some (⟨#[]⟩ : ByteArray)) = some r := by rw [if_neg (show ¬ (false = true) by decide)] at H; exact H
  clear H
  have H := H1
  clear H1
  obtain rfl := Option.some.inj H
  go_enter Tryd.func41, Tryd.ntmps41
  go_wp2_with (first | ((with_reducible refine gate_dst (N := 1) rfl ?_); refine box_event ?hg (N := 1) ?hd (cs := #[.string a0_0, .int .i64 a0_1]) (t := 23) ?hr ?_; (case hd => rfl); (case hg => rfl); (case hr => first | (go_simp; done) | (go_simp; rfl)); intro gb145 hg w16 hbox hb; have n0_ := Aside0.mk (below_step (by repeat (first | (with_reducible first | exact HB.out | apply below_alloc | apply pw_below_drewN | apply below_drew1) | exact HB.out)) hb); have n1_ := Aside0.mk (hbox); have n2_ := Aside0.mk ((by rw [hg]; exact (below_size (by repeat (first | (with_reducible first | exact HB.out | apply below_alloc | apply pw_below_drewN | apply below_drew1) | exact HB.out))) : w.heap.size ≤ gb145)); have n3_ := Aside0.mk ((by rw [hg]; exact (below_size (by repeat (first | (with_reducible first | exact HB.out | apply below_alloc | apply pw_below_drewN | apply below_drew1) | exact HB.out))) : w.heap.size ≤ gb145)); clear HB; have HB := n0_; have BK145 := n1_; have GW145 := n2_; have GE145 := n3_; clear n0_ n1_ n2_ n3_; clear hb hbox hg; have hcz17_0 : w16.cell? ⟨gb145, 0, none⟩ = some (.string a0_0) := (blk_cell BK145.out 0).trans rfl; have hcz17_1 : w16.cell? ⟨gb145, 1, none⟩ = some (.int .i64 a0_1) := (blk_cell BK145.out 1).trans rfl; have hfz17_0 := blk_frozen BK145.out 0; have hfz17_1 := blk_frozen BK145.out 1) | (go_at_call 40; (with_reducible refine (call_Right.calls a0_0 a0_1 false _ A2.out).mono ?_); rintro e w18 ⟨rfl, hb⟩; have n0_ := Aside0.mk (blk_below (g := gb145) (o := .cells #[.string a0_0, .int .i64 a0_1] 23 (0, 0)) (by (with_reducible repeat (first | refine blk_drewN ?_ _ | refine blk_drew ?_ | refine blk_alloc ?_ _)); exact BK145.out) hb); have n1_ := Aside0.mk (below_step (by repeat (first | (with_reducible first | exact HB.out | apply below_alloc | apply pw_below_drewN | apply below_drew1 | refine below_set ?_ GE145.out) | exact HB.out)) hb); clear BK145; clear HB; have BK145 := n0_; have HB := n1_; clear n0_ n1_; (try clear hb); (try clear hb2); (try clear hk); (try clear hi)))
  repeat (go_quiet (first | ((with_reducible refine gate_dst (N := 1) rfl ?_); refine box_event ?hg (N := 1) ?hd (cs := #[.string a0_0, .int .i64 a0_1]) (t := 23) ?hr ?_; (case hd => rfl); (case hg => rfl); (case hr => first | (go_simp; done) | (go_simp; rfl)); intro gb145 hg w16 hbox hb; have n0_ := Aside0.mk (below_step (by repeat (first | (with_reducible first | exact HB.out | apply below_alloc | apply pw_below_drewN | apply below_drew1) | exact HB.out)) hb); have n1_ := Aside0.mk (hbox); have n2_ := Aside0.mk ((by rw [hg]; exact (below_size (by repeat (first | (with_reducible first | exact HB.out | apply below_alloc | apply pw_below_drewN | apply below_drew1) | exact HB.out))) : w.heap.size ≤ gb145)); have n3_ := Aside0.mk ((by rw [hg]; exact (below_size (by repeat (first | (with_reducible first | exact HB.out | apply below_alloc | apply pw_below_drewN | apply below_drew1) | exact HB.out))) : w.heap.size ≤ gb145)); clear HB; have HB := n0_; have BK145 := n1_; have GW145 := n2_; have GE145 := n3_; clear n0_ n1_ n2_ n3_; clear hb hbox hg; have hcz17_0 : w16.cell? ⟨gb145, 0, none⟩ = some (.string a0_0) := (blk_cell BK145.out 0).trans rfl; have hcz17_1 : w16.cell? ⟨gb145, 1, none⟩ = some (.int .i64 a0_1) := (blk_cell BK145.out 1).trans rfl; have hfz17_0 := blk_frozen BK145.out 0; have hfz17_1 := blk_frozen BK145.out 1) | (go_at_call 40; (with_reducible refine (call_Right.calls a0_0 a0_1 false _ A2.out).mono ?_); rintro e w18 ⟨rfl, hb⟩; have n0_ := Aside0.mk (blk_below (g := gb145) (o := .cells #[.string a0_0, .int .i64 a0_1] 23 (0, 0)) (by (with_reducible repeat (first | refine blk_drewN ?_ _ | refine blk_drew ?_ | refine blk_alloc ?_ _)); exact BK145.out) hb); have n1_ := Aside0.mk (below_step (by repeat (first | (with_reducible first | exact HB.out | apply below_alloc | apply pw_below_drewN | apply below_drew1 | refine below_set ?_ GE145.out) | exact HB.out)) hb); clear BK145; clear HB; have BK145 := n0_; have HB := n1_; clear n0_ n1_; (try clear hb); (try clear hb2); (try clear hk); (try clear hi))); try go_wp2_with (first | ((with_reducible refine gate_dst (N := 1) rfl ?_); refine box_event ?hg (N := 1) ?hd (cs := #[.string a0_0, .int .i64 a0_1]) (t := 23) ?hr ?_; (case hd => rfl); (case hg => rfl); (case hr => first | (go_simp; done) | (go_simp; rfl)); intro gb145 hg w16 hbox hb; have n0_ := Aside0.mk (below_step (by repeat (first | (with_reducible first | exact HB.out | apply below_alloc | apply pw_below_drewN | apply below_drew1) | exact HB.out)) hb); have n1_ := Aside0.mk (hbox); have n2_ := Aside0.mk ((by rw [hg]; exact (below_size (by repeat (first | (with_reducible first | exact HB.out | apply below_alloc | apply pw_below_drewN | apply below_drew1) | exact HB.out))) : w.heap.size ≤ gb145)); have n3_ := Aside0.mk ((by rw [hg]; exact (below_size (by repeat (first | (with_reducible first | exact HB.out | apply below_alloc | apply pw_below_drewN | apply below_drew1) | exact HB.out))) : w.heap.size ≤ gb145)); clear HB; have HB := n0_; have BK145 := n1_; have GW145 := n2_; have GE145 := n3_; clear n0_ n1_ n2_ n3_; clear hb hbox hg; have hcz17_0 : w16.cell? ⟨gb145, 0, none⟩ = some (.string a0_0) := (blk_cell BK145.out 0).trans rfl; have hcz17_1 : w16.cell? ⟨gb145, 1, none⟩ = some (.int .i64 a0_1) := (blk_cell BK145.out 1).trans rfl; have hfz17_0 := blk_frozen BK145.out 0; have hfz17_1 := blk_frozen BK145.out 1) | (go_at_call 40; (with_reducible refine (call_Right.calls a0_0 a0_1 false _ A2.out).mono ?_); rintro e w18 ⟨rfl, hb⟩; have n0_ := Aside0.mk (blk_below (g := gb145) (o := .cells #[.string a0_0, .int .i64 a0_1] 23 (0, 0)) (by (with_reducible repeat (first | refine blk_drewN ?_ _ | refine blk_drew ?_ | refine blk_alloc ?_ _)); exact BK145.out) hb); have n1_ := Aside0.mk (below_step (by repeat (first | (with_reducible first | exact HB.out | apply below_alloc | apply pw_below_drewN | apply below_drew1 | refine below_set ?_ GE145.out) | exact HB.out)) hb); clear BK145; clear HB; have BK145 := n0_; have HB := n1_; clear n0_ n1_; (try clear hb); (try clear hb2); (try clear hk); (try clear hi))))
  go_ret
  exact ⟨by first | rfl | (simp [errW_none, errW_some] <;> rfl) | (simp [*, errW_none, errW_some] <;> rfl), by repeat (first | (with_reducible first | exact HB.out | apply below_alloc | apply pw_below_drewN | apply below_drew1 | refine below_set ?_ GE145.out) | exact HB.out)⟩

end Go.Proofs.YtpmieapgbdbabaaDoor.QAll
end

section
/- path.Text, walked by hand: the word of a right path. -/
set_option linter.unusedVariables false
set_option linter.unusedSimpArgs false
namespace Go.Proofs.YtpmieapgbdbabaaDoor.QAll
open Go.RowKit Go.Shelf Go.Proofs.YtpmieapgbdbabaaDoorW.PrintWords Go.Proofs.YtpmieapgbdbabaaDoorW.PrintLast Go.Proofs.YtpmieapgbdbabaaDoorW.PrintMore

/-- A call's word, if it is right. -/
def wordS (s : ByteArray) (n : Int) : ByteArray := (call_Text.f s n).getD ⟨#[]⟩
theorem decDigits_short (n : Nat) (h : n < 100) : (Lib.decDigits n).length ≤ 2 := by
  by_cases h1 : n < 10
  · rw [Lib.decDigits_one h1]; simp
  · rw [Lib.decDigits_two h1 h]; simp
theorem word_f (s : ByteArray) (n : Int) (hr : rightB s n = true) : call_Text.f s n = some (wordS s n) ∧ (wordS s n).size ≤ 9 := by
  have hl : 1 ≤ s.size ∧ s.size ≤ 6 ∧ 0 ≤ n ∧ n ≤ 15 := by
    unfold rightB at hr
    simpa using (by simpa using hr : _ ∧ _).2
  have h1 : ∃ t, call_Text.f s n = some t ∧ t.size ≤ 9 := by
    unfold call_Text.f call_Right.f
    rw [if_pos (by omega), Option.bind_some, if_pos hr]
    by_cases h0 : n = 0
    · rw [if_pos h0]; exact ⟨_, rfl, by omega⟩
    · have hd : ((⟨(Lib.decDigits n.toNat).toArray⟩ : ByteArray)).size ≤ 2 := by
        have := decDigits_short n.toNat (by omega)
        show (List.toArray _).size ≤ 2
        simpa using this
      have h45 : (⟨#[45]⟩ : ByteArray).size = 1 := rfl
      rw [if_neg h0, if_pos (by omega)]
      unfold strconv_Itoa_69.f
      rw [if_pos (by omega), Option.bind_some, if_pos (by simp only [ByteArray.size_append]; omega)]
      exact ⟨_, rfl, by simp only [ByteArray.size_append]; omega⟩
  obtain ⟨t, h2, h3⟩ := h1
  unfold wordS
  rw [h2]
  exact ⟨rfl, h3⟩
/-- The digipeaters' words, each behind a comma; a star behind the last one that has sent it. -/
def digT : List S93 → List UInt8
  | [] => []
  | d :: r => 44 :: (wordS d.f0.f0 d.f0.f1).data.toList ++ ((if d.f1 = true ∧ (match r with | [] => true | e :: _ => !e.f1) = true then [42] else []) ++ digT r)
def pathT (a0 : ByteArray) (n0 : Int) (a1 : ByteArray) (n1 : Int) (l : List S93) : List UInt8 := (wordS a1 n1).data.toList ++ 62 :: ((wordS a0 n0).data.toList ++ digT l)
def path_Text.f (a0_0 : ByteArray) (a0_1 : Int) (a0_2 : ByteArray) (a0_3 : Int) (a0_4 : Bool) (a0_5 : Bool) (l0_6 : List S93) : Option ByteArray :=
  if sizesOk a0_0 a0_2 l0_6 = true then some (if pathB a0_0 a0_1 a0_2 a0_3 l0_6 = true then ⟨(pathT a0_0 a0_1 a0_2 a0_3 l0_6).toArray⟩ else ⟨#[]⟩) else none
theorem below_two {B B' : Nat} {w W w' : World} (h1 : Below B w W) (h : B ≤ B') (h2 : Below B' W w') : Below B w w' :=
  ⟨h2.os.trans h1.os, h2.tape.trans h1.tape, h2.output.trans h1.output, Nat.le_trans h1.size h2.size, fun k hk => (h2.block k (Nat.lt_of_lt_of_le hk h)).trans (h1.block k hk)⟩
theorem BuilderAt_below {T e : TypeId} {B b : Nat} {p : Value} {bs : List Value} {w w' : World} (h : Lib.BuilderAt T e B b p bs w) (hb : Below w.heap.size w w') : Lib.BuilderAt T e B b p bs w' := by
  have hlt := h.lt
  obtain ⟨hB, v, hbk, hown, hne⟩ := h
  exact ⟨hB, v, (hb.block b hlt).trans hbk, hown.kept (row := none) ⟨hb.os, hb.tape, hb.output, hb.size, fun k hk _ => hb.block k hk⟩ (by simp; exact Classical.em _), hne⟩
set_option maxHeartbeats 1000000 in
set_option maxRecDepth 100000 in
theorem path_Text.calls (a0_0 : ByteArray) (a0_1 : Int) (a0_2 : ByteArray) (a0_3 : Int) (a0_4 : Bool) (a0_5 : Bool) (A0_6 : Option Addr) (c0_6 : Nat) (l0_6 : List (S93)) (r : ByteArray) (w : World) (hr0_6 : Kd.C k93 w A0_6 l0_6.length l0_6) (hc0_6 : l0_6.length ≤ c0_6) (h : path_Text.f a0_0 a0_1 a0_2 a0_3 a0_4 a0_5 l0_6 = some r) :
    Calls Tryd.prog 33 #[.agg #[.string a0_0, .int .i64 a0_1, .string a0_2, .int .i64 a0_3, .bool a0_4, .bool a0_5, .slice A0_6 l0_6.length c0_6]] w fun e w' => e = .returned (.string r) ∧ Below w.heap.size w w' := by
  unfold path_Text.f at h
  split at h
  case isFalse => cases h
  rename_i hs
  have HR_ := Aside0.mk (Option.some.inj h)
  have HR := Aside0.mk hr0_6
  have HSZ := Aside0.mk hs
  clear hr0_6 h hs
  have hu26 := Tryd.underlying26
  have hu23 := Tryd.underlying23
  have hu93 := Tryd.underlying93
  go_enter Tryd.func33, Tryd.ntmps33
  go_wp2_with (fail)
  refine (path_Right.calls a0_0 a0_1 a0_2 a0_3 a0_4 a0_5 A0_6 c0_6 l0_6 (pathB a0_0 a0_1 a0_2 a0_3 l0_6) _ (Kd.C_below HR.out ((Below.refl _ _).alloc (Nat.le_refl _) _)) hc0_6 (by unfold path_Right.f; rw [if_pos HSZ.out])).mono ?_
  rintro e w1 ⟨rfl, hb⟩
  have hz := hb.size
  simp only [World.size_alloc] at hz
  have hblk := (hb.block w.heap.size (by simp)).trans (heap_alloc_new w _)
  have HB1 := Aside0.mk (below_then ((Below.refl w.heap.size w).alloc (Nat.le_refl _) _) (by simp) hb)
  have HK1 := Aside0.mk hblk
  clear hb hblk
  cases hp : pathB a0_0 a0_1 a0_2 a0_3 l0_6 with
  | false =>
    have hr := HR_.out
    rw [hp, if_neg (by simp)] at hr
    subst hr
    clear HR_
    go_wp2_with (fail)
    go_ret
    exact ⟨rfl, HB1.out⟩
  | true =>
    have hr := HR_.out
    rw [hp, if_pos rfl] at hr
    subst hr
    clear HR_
    have hp' := hp
    unfold pathB at hp'
    simp only [Bool.and_eq_true] at hp'
    have HWT := Aside0.mk (word_f a0_0 a0_1 hp'.1)
    have HWF := Aside0.mk (word_f a0_2 a0_3 hp'.2.1)
    have HAL := Aside0.mk hp'.2.2.1
    clear hp' hp
    go_upto_region 4 with fail
    have HBd := Aside0.mk (show Lib.BuilderAt 106 5 w1.heap.size w1.heap.size (.pointer none) [] (w1.alloc (.cells #[.pointer none, .slice none 0 0] 106)) from by
      rcases Lib.fresh_isBuilder 106 5 w1 with h | h
      · exact h
      · have := h.cell0; simp at this)
    have HK := Aside0.mk ((Below.heap_alloc w1 (.cells #[.pointer none, .slice none 0 0] 106) w.heap.size (by omega)).trans HK1.out)
    have HB := Aside0.mk (HB1.out.alloc HB1.out.size (.cells #[.pointer none, .slice none 0 0] 106))
    have HZ := Aside0.mk (show w1.heap.size ≤ (w1.alloc (.cells #[.pointer none, .slice none 0 0] 106)).heap.size by simp)
    have HG := Aside0.mk (show w.heap.size + 1 ≤ w1.heap.size from hz)
    clear HK1 HB1
    generalize w1.alloc (.cells #[.pointer none, .slice none 0 0] 106) = w3 at HBd HK HB HZ ⊢
    go_cut [9] from 9 to 17 (fun v9 wx => Aside0 (Lib.BuilderAt 106 5 w1.heap.size w1.heap.size (.pointer (some ⟨w1.heap.size, 0, none⟩)) (Lib.strCells ((wordS a0_2 a0_3 ++ (⟨#[62]⟩ : ByteArray)) ++ wordS a0_0 a0_1)) wx) ∧
      Aside0 (wx.heap[w.heap.size]? = some (.cells #[.string a0_0, .int .i64 a0_1, .string a0_2, .int .i64 a0_3, .bool a0_4, .bool a0_5, .slice A0_6 l0_6.length c0_6] 26 (0, 0))) ∧ Aside0 (Below w.heap.size w wx) ∧ Aside0 (w1.heap.size ≤ wx.heap.size))
    case first =>
      have n0_ := Aside0.mk (Lib.BuilderAt.drew HBd.out)
      have n1_ : Aside0 (w3.drew.heap[w.heap.size]? = some (.cells #[.string a0_0, .int .i64 a0_1, .string a0_2, .int .i64 a0_3, .bool a0_4, .bool a0_5, .slice A0_6 l0_6.length c0_6] 26 (0, 0))) := ⟨HK.out⟩
      have n2_ := Aside0.mk (below_drew1 HB.out)
      have n3_ : Aside0 (w1.heap.size ≤ w3.drew.heap.size) := ⟨HZ.out⟩
      clear HBd HK HB HZ
      have HBd := n0_
      have HK := n1_
      have HB := n2_
      have HZ := n3_
      clear n0_ n1_ n2_ n3_
      have x0 : w3.cell? ⟨w.heap.size, 0, none⟩ = some (.string a0_0) := blk_cell HK.out 0
      have x1 : w3.cell? ⟨w.heap.size, 1, none⟩ = some (.int .i64 a0_1) := blk_cell HK.out 1
      have x2 : w3.cell? ⟨w.heap.size, 2, none⟩ = some (.string a0_2) := blk_cell HK.out 2
      have x3 : w3.cell? ⟨w.heap.size, 3, none⟩ = some (.int .i64 a0_3) := blk_cell HK.out 3
      have h62 : (⟨#[62]⟩ : ByteArray).size = 1 := rfl
      have hw1 : (wordS a0_2 a0_3).size + 1 ≤ 9223372036854775807 := by have := HWF.out.2; omega
      have hw2 : (wordS a0_2 a0_3 ++ (⟨#[62]⟩ : ByteArray)).size + (wordS a0_0 a0_1).size ≤ 9223372036854775807 := by have := HWF.out.2; have := HWT.out.2; simp only [ByteArray.size_append]; omega
      have hw3 : (wordS a0_2 a0_3).size + 1 + (wordS a0_0 a0_1).size ≤ 9223372036854775807 := by have := HWF.out.2; have := HWT.out.2; omega
      have hws : ∀ W : World, Lib.BuilderAt 106 5 w1.heap.size w1.heap.size (.pointer none) [] W → w1.heap.size ≤ W.heap.size → Calls Tryd.prog 66 #[.pointer (some ⟨w1.heap.size, 0, none⟩), .string ((wordS a0_2 a0_3 ++ (⟨#[62]⟩ : ByteArray)) ++ wordS a0_0 a0_1)] W fun e w' => e = .returned (.tuple #[.int .i64 ((wordS a0_2 a0_3 ++ (⟨#[62]⟩ : ByteArray)) ++ wordS a0_0 a0_1).size, .nilIface]) ∧ (Lib.BuilderAt 106 5 w1.heap.size w1.heap.size (.pointer (some ⟨w1.heap.size, 0, none⟩)) ([] ++ Lib.strCells ((wordS a0_2 a0_3 ++ (⟨#[62]⟩ : ByteArray)) ++ wordS a0_0 a0_1)) w' ∧ Below w1.heap.size W w') := fun W g1 g2 =>
        (writeString w1.heap.size w1.heap.size [] _ W (Or.inl g1) (by have := HWF.out.2; have := HWT.out.2; simp only [ByteArray.size_append, List.length_nil]; omega) g2).mono fun e w' h => ⟨h.1, h.2.1, h.2.2.1⟩
      go_region_with (first | (go_at_call 41; (first | (with_reducible refine (call_Text.calls a0_0 a0_1 (wordS a0_0 a0_1) _ HWT.out.1).mono ?_) | (with_reducible refine (call_Text.calls a0_2 a0_3 (wordS a0_2 a0_3) _ HWF.out.1).mono ?_)); rintro e w' ⟨rfl, hb⟩; have n0_ := Aside0.mk (BuilderAt_below HBd.out hb); have n1_ := Aside0.mk ((hb.block w.heap.size (Nat.lt_of_lt_of_le HG.out HZ.out)).trans HK.out); have n2_ := Aside0.mk (below_then HB.out HB.out.size hb); have n3_ := Aside0.mk (Nat.le_trans HZ.out hb.size); clear HBd HK HB HZ hb; have HBd := n0_; have HK := n1_; have HB := n2_; have HZ := n3_; clear n0_ n1_ n2_ n3_; have x0 : w'.cell? ⟨w.heap.size, 0, none⟩ = some (.string a0_0) := blk_cell HK.out 0; have x1 : w'.cell? ⟨w.heap.size, 1, none⟩ = some (.int .i64 a0_1) := blk_cell HK.out 1; have x2 : w'.cell? ⟨w.heap.size, 2, none⟩ = some (.string a0_2) := blk_cell HK.out 2; have x3 : w'.cell? ⟨w.heap.size, 3, none⟩ = some (.int .i64 a0_3) := blk_cell HK.out 3) | (go_at_call 66; (refine (hws _ HBd.out HZ.out).mono ?_); rintro e w' ⟨rfl, hbd, hb⟩; have n1_ := Aside0.mk ((hb.block w.heap.size HG.out).trans HK.out); have n2_ := Aside0.mk (below_two HB.out (Nat.le_of_lt HG.out) hb); have n3_ := Aside0.mk (Nat.le_trans HZ.out hb.size); have n0_ := Aside0.mk hbd; clear HBd HK HB HZ hb hbd; have HBd := n0_; have HK := n1_; have HB := n2_; have HZ := n3_; clear n0_ n1_ n2_ n3_))
      all_goals (go_wp2_with (fail); go_meet; exact ⟨⟨by simpa using HBd.out⟩, ⟨HK.out⟩, ⟨HB.out⟩, ⟨HZ.out⟩⟩)
    case rest =>
      clear HBd HK HB HZ
      obtain ⟨HBd, HK, HB, HZ⟩ := hcut
      have x6 : wc.cell? ⟨w.heap.size, 6, none⟩ = some (.slice A0_6 l0_6.length c0_6) := blk_cell HK.out 6
      go_wp2
      have HX := Aside0.mk (show Lib.strCells ((wordS a0_2 a0_3 ++ (⟨#[62]⟩ : ByteArray)) ++ wordS a0_0 a0_1) = Lib.byteCells ((wordS a0_2 a0_3).data.toList ++ 62 :: (wordS a0_0 a0_1).data.toList) by rw [Lib.strCells_eq]; simp)
      have HXl := Aside0.mk (show ((wordS a0_2 a0_3).data.toList ++ 62 :: (wordS a0_0 a0_1).data.toList).length ≤ 20 by
        have h1 := HWF.out.2; have h2 := HWT.out.2
        simp only [List.length_append, List.length_cons, Array.length_toList]
        have h3 : (wordS a0_2 a0_3).data.size = (wordS a0_2 a0_3).size := rfl
        have h4 : (wordS a0_0 a0_1).data.size = (wordS a0_0 a0_1).size := rfl
        omega)
      rw [HX.out] at HBd
      have HL := Aside0.mk (show l0_6.length ≤ 1000000 by have := HSZ.out; unfold sizesOk at this; simp at this; exact this.2.2.2)
      go_loopw [4, 5, 21] (fun v4 v5 v21 wr => ∃ (k : Nat) (X : List UInt8), k ≤ l0_6.length ∧ v21 = .int .i64 k ∧ Aside0 (X ++ digT (l0_6.drop k) = pathT a0_0 a0_1 a0_2 a0_3 l0_6) ∧ Aside0 (X.length ≤ 20 + 12 * k) ∧
        Aside0 (Lib.BuilderAt 106 5 w1.heap.size w1.heap.size (.pointer (some ⟨w1.heap.size, 0, none⟩)) (Lib.byteCells X) wr) ∧
        Aside0 (wr.heap[w.heap.size]? = some (.cells #[.string a0_0, .int .i64 a0_1, .string a0_2, .int .i64 a0_3, .bool a0_4, .bool a0_5, .slice A0_6 l0_6.length c0_6] 26 (0, 0))) ∧ Aside0 (Below w.heap.size w wr) ∧ Aside0 (w1.heap.size ≤ wr.heap.size))
        (fun v4 v5 v21 _ => l0_6.length - (intOf v21).toNat)
      case atStart =>
        exact ⟨0, _, Nat.zero_le _, rfl, ⟨by rw [List.drop_zero]; unfold pathT; simp⟩, ⟨by have := HXl.out; omega⟩, HBd, HK, HB, HZ⟩
      case round =>
        clear HBd HK HB HZ x6
        obtain ⟨k, X, hk, rfl, HT, HXk, HBd, HK, HB, HZ⟩ := hrel
        have x6 : wr.cell? ⟨w.heap.size, 6, none⟩ = some (.slice A0_6 l0_6.length c0_6) := blk_cell HK.out 6
        by_cases hlt : k < l0_6.length
        · obtain ⟨ad, hA, y0, y1, y2⟩ := at_T93 HR.out k (by omega) (by omega)
          subst hA
          replace y0 := (HB.out.cell (World.block_lt_of_cell? w _ y0)).trans y0
          replace y1 := (HB.out.cell (World.block_lt_of_cell? w _ y1)).trans y1
          replace y2 := (HB.out.cell (World.block_lt_of_cell? w _ y2)).trans y2
          simp only [Int.toNat_natCast] at y0 y1 y2
          have HD := Aside0.mk (show rightD (rd_T93 l0_6 k) = true from List.all_eq_true.1 HAL.out _ (by unfold rd_T93; rw [Int.toNat_natCast, List.getD_eq_getElem?_getD, List.getElem?_eq_getElem hlt]; exact List.getElem_mem hlt))
          have HWD := Aside0.mk (word_f _ _ HD.out)
          have HNr := Aside0.mk HBd.out.lt
          go_wp2_with (fail)
          refine (call_Text.calls (rd_T93 l0_6 k).f0.f0 (rd_T93 l0_6 k).f0.f1 _ _ HWD.out.1).mono ?_
          rintro e w4 ⟨rfl, hb⟩
          have hbA : Below wr.heap.size wr w4 := below_then ((Below.refl _ _).alloc (Nat.le_refl _) _) (by simp) hb
          have HD4 := Aside0.mk ((hb.block wr.heap.size (by simp)).trans (heap_alloc_new wr _))
          have HBd4 := Aside0.mk (BuilderAt_below HBd.out hbA)
          have HK4 := Aside0.mk ((hbA.block w.heap.size (Nat.lt_of_lt_of_le HG.out HZ.out)).trans HK.out)
          have HB4 := Aside0.mk (below_then HB.out HB.out.size hbA)
          have HZ4 := Aside0.mk (Nat.le_trans HZ.out hbA.size)
          clear HBd HK HB hb hbA x6 y0 y1 y2
          have h44 : (⟨#[44]⟩ : ByteArray).size = 1 := rfl
          have hw1 : 1 + (wordS (rd_T93 l0_6 k).f0.f0 (rd_T93 l0_6 k).f0.f1).size ≤ 9223372036854775807 := by have := HWD.out.2; omega
          go_wp2_with (fail)
          refine (writeString w1.heap.size w1.heap.size (Lib.byteCells X) _ _ (Or.inr HBd4.out) (by have := HWD.out.2; have := HXk.out; have := HL.out; rw [Lib.byteCells_length, ByteArray.size_append]; omega) HZ4.out).mono ?_
          rintro e w5 ⟨rfl, hbd, hb, hkp⟩
          have HBd5 := Aside0.mk hbd
          have HD5 := Aside0.mk (hkp wr.heap.size _ _ (by have := HNr.out; omega) (by decide) HD4.out)
          have HK5 := Aside0.mk ((hb.block w.heap.size HG.out).trans HK4.out)
          have HB5 := Aside0.mk (below_two HB4.out (Nat.le_of_lt HG.out) hb)
          have HZ5 := Aside0.mk (Nat.le_trans HZ4.out hb.size)
          clear HBd4 HD4 HK4 HB4 HZ4 hbd hb hkp
          have x6 : w5.cell? ⟨w.heap.size, 6, none⟩ = some (.slice (some ad) l0_6.length c0_6) := blk_cell HK5.out 6
          have d2 : w5.cell? ⟨wr.heap.size, 2, none⟩ = some (.bool (rd_T93 l0_6 k).f1) := blk_cell HD5.out 2
          have HX5 := Aside0.mk (show Lib.byteCells X ++ Lib.strCells ((⟨#[44]⟩ : ByteArray) ++ wordS (rd_T93 l0_6 k).f0.f0 (rd_T93 l0_6 k).f0.f1) = Lib.byteCells (X ++ 44 :: (wordS (rd_T93 l0_6 k).f0.f0 (rd_T93 l0_6 k).f0.f1).data.toList) by
            rw [Lib.strCells_eq]; simp [Lib.byteCells])
          rw [HX5.out] at HBd5
          have HT5 : ∀ q : List UInt8, (if (rd_T93 l0_6 k).f1 = true ∧ (match l0_6.drop (k + 1) with | [] => true | e :: _ => !e.f1) = true then [42] else []) = q → (X ++ 44 :: (wordS (rd_T93 l0_6 k).f0.f0 (rd_T93 l0_6 k).f0.f1).data.toList ++ q) ++ digT (l0_6.drop (k + 1)) = pathT a0_0 a0_1 a0_2 a0_3 l0_6 := by
            intro q hq
            rw [← HT.out, drop_T93 l0_6 k hlt]
            conv => rhs; unfold digT
            rw [hq]
            simp
          have HT5 := Aside0.mk HT5
          have HX5l := Aside0.mk (show (X ++ 44 :: (wordS (rd_T93 l0_6 k).f0.f0 (rd_T93 l0_6 k).f0.f1).data.toList).length ≤ 20 + 12 * k + 10 by
            have h1 := HXk.out; have h2 := HWD.out.2
            simp only [List.length_append, List.length_cons, Array.length_toList]
            have h3 : (wordS (rd_T93 l0_6 k).f0.f0 (rd_T93 l0_6 k).f0.f1).data.size = (wordS (rd_T93 l0_6 k).f0.f0 (rd_T93 l0_6 k).f0.f1).size := rfl
            omega)
          clear HT HX5 HXk
          generalize hXX : X ++ 44 :: (wordS (rd_T93 l0_6 k).f0.f0 (rd_T93 l0_6 k).f0.f1).data.toList = X5 at HBd5 HT5 HX5l
          clear hXX
          have hwr : wrap64 ((k : Int) + 1) = ((k + 1 : Nat) : Int) := by have := HL.out; unfold wrap64; omega
          cases hf : (rd_T93 l0_6 k).f1 with
          | false =>
            have HQ := Aside0.mk (HT5.out [] (by rw [hf, if_neg (by simp)]))
            clear HT5
            rw [hf] at d2
            go_wp2_with (fail)
            rw [hwr]
            exact ⟨⟨k + 1, X5, by omega, rfl, ⟨by simpa using HQ.out⟩, ⟨by have := HX5l.out; omega⟩, HBd5, HK5, HB5, HZ5⟩, by simp only [intOf]; omega⟩
          | true =>
            rw [hf] at d2
            have hstar : ∀ W : World, Lib.BuilderAt 106 5 w1.heap.size w1.heap.size (.pointer (some ⟨w1.heap.size, 0, none⟩)) (Lib.byteCells X5) W → w1.heap.size ≤ W.heap.size → Calls Tryd.prog 66 #[.pointer (some ⟨w1.heap.size, 0, none⟩), .string ⟨#[42]⟩] W fun e w' => e = .returned (.tuple #[.int .i64 1, .nilIface]) ∧ (Lib.BuilderAt 106 5 w1.heap.size w1.heap.size (.pointer (some ⟨w1.heap.size, 0, none⟩)) (Lib.byteCells (X5 ++ [42])) w' ∧ Below w1.heap.size W w') := fun W g1 g2 =>
              (writeString w1.heap.size w1.heap.size _ ⟨#[42]⟩ W (Or.inr g1) (by have := HX5l.out; have := HL.out; rw [Lib.byteCells_length]; have h42 : (⟨#[42]⟩ : ByteArray).size = 1 := rfl; omega) g2).mono fun e w' h => ⟨h.1, by have := h.2.1; rw [Lib.strCells_eq] at this; simpa [Lib.byteCells] using this, h.2.2.1⟩
            by_cases hlast : k + 1 = l0_6.length
            · have HQ := Aside0.mk (HT5.out [42] (by rw [hf, List.drop_eq_nil_of_le (by omega)]; rfl))
              clear HT5
              have hcmp : ((k : Int) == wrap64 ((l0_6.length : Int) - 1)) = true := by have := HL.out; rw [beq_iff_eq]; unfold wrap64; omega
              go_wp2_with (fail)
              refine (hstar _ HBd5.out HZ5.out).mono ?_
              rintro e w6 ⟨rfl, hbd, hb⟩
              go_wp2_with (fail)
              rw [hwr]
              exact ⟨⟨k + 1, X5 ++ [42], by omega, rfl, HQ, ⟨by rw [List.length_append]; have := HX5l.out; simp only [List.length_cons, List.length_nil]; omega⟩, ⟨hbd⟩, ⟨(hb.block w.heap.size HG.out).trans HK5.out⟩, ⟨below_two HB5.out (Nat.le_of_lt HG.out) hb⟩, ⟨Nat.le_trans HZ5.out hb.size⟩⟩, by simp only [intOf]; omega⟩
            · have hk1 : k + 1 < l0_6.length := by omega
              obtain ⟨ad', hA', z0, z1, z2⟩ := at_T93 HR.out ((k + 1 : Nat) : Int) (by omega) (by omega)
              cases hA'
              replace z2 := (HB5.out.cell (World.block_lt_of_cell? w _ z2)).trans z2
              simp only [Int.toNat_natCast] at z2
              clear z0 z1
              have hcmp : ((k : Int) == wrap64 ((l0_6.length : Int) - 1)) = false := by have := HL.out; rw [beq_eq_false_iff_ne]; unfold wrap64; omega
              have hi0 : 0 ≤ ((k + 1 : Nat) : Int) := by omega
              have hi1 : ((k + 1 : Nat) : Int) < (l0_6.length : Int) := by omega
              cases hg : (rd_T93 l0_6 ((k + 1 : Nat) : Int)).f1 with
              | true =>
                have HQ := Aside0.mk (HT5.out [] (by rw [hf, drop_T93 l0_6 (k + 1) hk1]; show (if true = true ∧ (!(rd_T93 l0_6 ((k + 1 : Nat) : Int)).f1) = true then _ else _) = _; rw [hg]; rfl))
                clear HT5
                rw [hg] at z2
                go_wp2_with (fail)
                rw [hwr]
                exact ⟨⟨k + 1, X5, by omega, rfl, ⟨by simpa using HQ.out⟩, ⟨by have := HX5l.out; omega⟩, HBd5, HK5, HB5, HZ5⟩, by simp only [intOf]; omega⟩
              | false =>
                have HQ := Aside0.mk (HT5.out [42] (by rw [hf, drop_T93 l0_6 (k + 1) hk1]; show (if true = true ∧ (!(rd_T93 l0_6 ((k + 1 : Nat) : Int)).f1) = true then _ else _) = _; rw [hg]; rfl))
                clear HT5
                rw [hg] at z2
                go_wp2_with (fail)
                refine (hstar _ HBd5.out HZ5.out).mono ?_
                rintro e w6 ⟨rfl, hbd, hb⟩
                go_wp2_with (fail)
                rw [hwr]
                exact ⟨⟨k + 1, X5 ++ [42], by omega, rfl, HQ, ⟨by rw [List.length_append]; have := HX5l.out; simp only [List.length_cons, List.length_nil]; omega⟩, ⟨hbd⟩, ⟨(hb.block w.heap.size HG.out).trans HK5.out⟩, ⟨below_two HB5.out (Nat.le_of_lt HG.out) hb⟩, ⟨Nat.le_trans HZ5.out hb.size⟩⟩, by simp only [intOf]; omega⟩
        · obtain rfl : k = l0_6.length := by omega
          go_wp2_with (fail)
          have HXe := Aside0.mk (show pathT a0_0 a0_1 a0_2 a0_3 l0_6 = X by rw [← HT.out, List.drop_length]; simp [digT])
          refine (Tryd.Builder_String_any w1.heap.size w1.heap.size X _ (Or.inr HBd.out) HZ.out).mono ?_
          rintro e w9 ⟨rfl, hb⟩
          go_wp2_with (fail)
          go_ret
          exact ⟨by rw [HXe.out]; rfl, below_two HB.out (Nat.le_of_lt HG.out) hb⟩
end Go.Proofs.YtpmieapgbdbabaaDoor.QAll
end

section
/- Walks, written by a program of this session (wip/pp): a Go function comes to what the Lean function beside it tells. -/
namespace Go.Proofs.YtpmieapgbdbabaaDoor.QAll
open Go.RowKit Go.Proofs.YtpmieapgbdbabaaDoorW.PrintWords Go.Proofs.YtpmieapgbdbabaaDoorW.PrintLast Go.Proofs.YtpmieapgbdbabaaDoorW.PrintMore
attribute [local go_sem] max2_int min2_int max_two min_two max_three min_three max_four min_four
set_option linter.unusedVariables false
set_option linter.unusedSimpArgs false

def call_bit.f (a0 : Bool) (a1 : Int) : Option (Int) := if a0 = true then (some a1) else (some 0)
set_option maxHeartbeats 8000000 in
set_option maxRecDepth 100000 in
theorem call_bit.calls (a0 : Bool) (a1 : Int) (r : Int) (w : World) (h : call_bit.f a0 a1 = some r) :
  Calls Tryd.prog 83 #[.bool a0, .int .u8 a1] w fun e w' => e = .returned (.int .u8 r) ∧ Drawn0 w w' := by
 have H : (if a0 = true then (some a1) else (some 0)) = some r := h
 clear h
 by_cases c3 : a0 = true
 ·subst c3
  have H1 : (some a1) = some r := by rw [if_pos rfl] at H; exact H
  clear H
  have H := H1
  clear H1
  obtain rfl := Option.some.inj H
  go_enter Tryd.func83, Tryd.ntmps83
  go_wp2
  go_ret
  exact ⟨by first | rfl | (simp; done) | (simp [*]; done) | (simp; exact (fun l : List UInt8 => (by cases l <;> rfl : l.isEmpty = !(l != []))) _), by repeat (first | exact Drawn0.refl _ | apply Drawn0.step)⟩
 ·replace c3 := Bool.eq_false_iff.mpr c3
  subst c3
  have H1 : (some 0) = some r := by rw [if_neg (show ¬ (false = true) by decide)] at H; exact H
  clear H
  have H := H1
  clear H1
  obtain rfl := Option.some.inj H
  go_enter Tryd.func83, Tryd.ntmps83
  go_wp2
  go_ret
  exact ⟨by first | rfl | (simp; done) | (simp [*]; done) | (simp; exact (fun l : List UInt8 => (by cases l <;> rfl : l.isEmpty = !(l != []))) _), by repeat (first | exact Drawn0.refl _ | apply Drawn0.step)⟩

end Go.Proofs.YtpmieapgbdbabaaDoor.QAll
end

section
/- call.Put, walked by hand: the seven bytes of a right call, or none and ErrCall, for every call. -/
set_option linter.unusedVariables false
set_option linter.unusedSimpArgs false
namespace Go.Proofs.YtpmieapgbdbabaaDoor.QAll
open Go.RowKit Go.Proofs.YtpmieapgbdbabaaDoorW.PrintWords Go.Proofs.YtpmieapgbdbabaaDoorW.PrintLast Go.Proofs.YtpmieapgbdbabaaDoorW.PrintMore

/-- The i-th letter's byte. -/
def putAt (s : ByteArray) (i : Nat) : Int := if i < s.size then bt s i * 2 else 64
/-- The last byte. -/
def putEnd (n : Int) (mark last : Bool) : Int := (if mark = true then 128 else 0) + 96 + 2 * n + (if last = true then 1 else 0)
def putL (s : ByteArray) (n : Int) (mark last : Bool) : List Int := [putAt s 0, putAt s 1, putAt s 2, putAt s 3, putAt s 4, putAt s 5, putEnd n mark last]
def call_Put.f (a0_0 : ByteArray) (a0_1 : Int) (a1 a2 : Bool) : Option (ByteArray × Int) :=
  if a0_0.size ≤ 9223372036854775807 then (if rightB a0_0 a0_1 = true then some (strOfNums (putL a0_0 a0_1 a1 a2), 0) else some (⟨#[]⟩, 12)) else none

/-- Behind k rounds: the array in block B. -/
def PutAt (s : ByteArray) (B k : Nat) (w : World) : Prop := ∃ cur, w.heap[B]? = some (.cells cur 128 (0, 0)) ∧ cur.size = 7 ∧ ∀ j : Nat, j < k → cur[j]? = some (.int .u8 (putAt s j))
theorem PutAt.cell {s : ByteArray} {B k : Nat} {w : World} (h : PutAt s B k w) (j : Nat) (hj : j < 7) : ∃ v, w.cell? ⟨B, j, none⟩ = some v := by
  obtain ⟨cur, hb, hm, hc⟩ := h
  simp only [World.cell?, hb]
  exact ⟨cur[j]'(by omega), Array.getElem?_eq_getElem (by omega)⟩
theorem PutAt.frozen {s : ByteArray} {B k : Nat} {w : World} (h : PutAt s B k w) (j : Nat) : w.frozen? ⟨B, j, none⟩ = false := by
  obtain ⟨cur, hb, hm, hc⟩ := h
  simp [World.frozen?, hb]
theorem PutAt.store {s : ByteArray} {B k : Nat} {w : World} (h : PutAt s B k w) (hk : k < 7) (x : Int) (hx : x = putAt s k) : PutAt s B (k + 1) (w.setCell ⟨B, k, none⟩ (.int .u8 x)) := by
  obtain ⟨cur, hb, hm, hc⟩ := h
  refine ⟨cur.setIfInBounds k (.int .u8 x), ?_, by simpa using hm, fun j hj => ?_⟩
  · simp [World.setCell, Array.getElem?_modify, hb]
  · rw [Array.getElem?_setIfInBounds]
    by_cases e : k = j
    · subst e
      rw [if_pos rfl, if_pos (by omega), hx]
    · rw [if_neg e, hc j (by omega)]
theorem PutAt.set {s : ByteArray} {B k : Nat} {w : World} (h : PutAt s B k w) (x : Value) : PutAt s B k (w.setCell ⟨B, k, none⟩ x) := by
  obtain ⟨cur, hb, hm, hc⟩ := h
  refine ⟨cur.setIfInBounds k x, ?_, by simpa using hm, fun j hj => ?_⟩
  · simp [World.setCell, Array.getElem?_modify, hb]
  · rw [Array.getElem?_setIfInBounds, if_neg (by omega), hc j hj]
theorem PutAt.drewN {s : ByteArray} {B k : Nat} {w : World} (h : PutAt s B k w) (n : Nat) : PutAt s B k (w.drewN n) := h
theorem PutAt.drew {s : ByteArray} {B k : Nat} {w : World} (h : PutAt s B k w) : PutAt s B k w.drew := h
theorem lets_le {s : ByteArray} {n : Int} (h : rightB s n = true) (k : Nat) (hk : k < s.size) : 48 ≤ bt s k ∧ bt s k ≤ 90 := by
  unfold rightB letsB at h
  simp only [Bool.and_eq_true, List.all_eq_true] at h
  have := h.1 _ (List.getElem_mem (by simpa using hk : k < s.data.toList.length))
  rw [← bt_data s k hk] at this
  unfold letB at this
  simp only [decide_eq_true_eq] at this
  omega
theorem right_lens {s : ByteArray} {n : Int} (h : rightB s n = true) : 1 ≤ s.size ∧ s.size ≤ 6 ∧ 0 ≤ n ∧ n ≤ 15 := by
  unfold rightB at h
  simpa using (by simpa using h : _ ∧ _).2

def bitI (b : Bool) (v : Int) : Int := if b = true then v else 0
theorem bit_any (b : Bool) (v : Int) (w : World) : Calls Tryd.prog 83 #[.bool b, .int .u8 v] w fun e w' => e = .returned (.int .u8 (bitI b v)) ∧ Drawn0 w w' :=
  call_bit.calls b v (bitI b v) w (by unfold call_bit.f bitI; cases b <;> rfl)
theorem PutAt.list {s : ByteArray} {B : Nat} {w : World} {x : Int} {n : Int} {m l : Bool} (h : PutAt s B 6 w) (hx : x = putEnd n m l) (j : Nat) (hj : j < 7) :
    (w.setCell ⟨B, 6, none⟩ (.int .u8 x)).cell? ⟨B, 0 + j, none⟩ = some (.int .u8 ((putL s n m l).getD j 0)) := by
  obtain ⟨cur, hb, hm, hc⟩ := h
  have hb2 : (w.setCell ⟨B, 6, none⟩ (.int .u8 x)).heap[B]? = some (.cells (cur.setIfInBounds 6 (.int .u8 x)) 128 (0, 0)) := by simp [World.setCell, Array.getElem?_modify, hb]
  simp only [World.cell?, hb2]
  show (cur.setIfInBounds 6 (.int .u8 x))[0 + j]? = _
  rw [Nat.zero_add, Array.getElem?_setIfInBounds]
  by_cases e : 6 = j
  · subst e; rw [if_pos rfl, if_pos (by omega), hx]; rfl
  · rw [if_neg e, hc j (by omega)]
    have : j = 0 ∨ j = 1 ∨ j = 2 ∨ j = 3 ∨ j = 4 ∨ j = 5 := by omega
    rcases this with rfl | rfl | rfl | rfl | rfl | rfl <;> rfl
theorem end_wrap (n : Int) (h0 : 0 ≤ n) (h1 : n ≤ 15) (m l : Bool) : Go.bits .or .u8 (Go.bits .or .u8 (Go.bits .or .u8 (bitI m 128) 96) (n * 2)) (bitI l 1) = putEnd n m l := by
  have h : ∀ n : Fin 16, ∀ m l : Bool, Go.bits .or .u8 (Go.bits .or .u8 (Go.bits .or .u8 (bitI m 128) 96) ((n.val : Int) * 2)) (bitI l 1) = putEnd n.val m l := by decide
  have := h ⟨n.toNat, by omega⟩ m l
  rw [show ((⟨n.toNat, by omega⟩ : Fin 16).val : Int) = n by simp; omega] at this
  exact this
set_option maxHeartbeats 1000000 in
set_option maxRecDepth 100000 in
theorem call_Put.calls (a0_0 : ByteArray) (a0_1 : Int) (a1 a2 : Bool) (r1 : ByteArray) (r2 : Int) (w : World) (h : call_Put.f a0_0 a0_1 a1 a2 = some (r1, r2)) :
    Calls Tryd.prog 52 #[.agg #[.string a0_0, .int .i64 a0_1], .bool a1, .bool a2] w fun e w' => e = .returned (.tuple #[.string r1, .int .i64 r2]) ∧ Below w.heap.size w w' := by
  unfold call_Put.f at h
  split at h
  case isFalse => exact absurd h (by simp)
  rename_i hs
  have hu23 := Tryd.underlying23
  split at h
  · rename_i hr
    have HQ := Aside0.mk hr
    simp only [Option.some.injEq, Prod.mk.injEq] at h
    obtain ⟨rfl, rfl⟩ := h
    clear hr
    go_enter Tryd.func52, Tryd.ntmps52
    go_wp2_with (go_at_call 40; (with_reducible refine (call_Right.calls a0_0 a0_1 true _ (by unfold call_Right.f; rw [if_pos hs, HQ.out])).mono ?_); rintro e w1 ⟨rfl, hb⟩)
    have hz := hb.size
    simp only [World.size_alloc] at hz
    have HB := Aside0.mk (show Below w.heap.size w w1 from below_then ((Below.refl _ _).alloc (Nat.le_refl _) _) (by simp) hb)
    have hc0 : w1.cell? ⟨w.heap.size, 0, none⟩ = some (.string a0_0) := by rw [hb.cell (by simp)]; simp
    have hc1 : w1.cell? ⟨w.heap.size, 1, none⟩ = some (.int .i64 a0_1) := by rw [hb.cell (by simp)]; simp
    clear hb
    have hne : ∀ i j : Nat, (⟨w1.heap.size, i, none⟩ : Addr) ≠ ⟨w.heap.size, j, none⟩ := fun i j e => by injection e; omega
    have HNE := Aside0.mk hne
    clear hne
    go_loopw [13] (fun i wr => ∃ k : Nat, k ≤ 6 ∧ i = .int .i64 k ∧ Aside0 (PutAt a0_0 w1.heap.size k wr) ∧ Aside0 (Below w.heap.size w wr) ∧ (wr.cell? ⟨w.heap.size, 0, none⟩ = some (.string a0_0)) ∧ (wr.cell? ⟨w.heap.size, 1, none⟩ = some (.int .i64 a0_1)))
      (fun i _ => 6 - (intOf i).toNat)
    case atStart =>
      refine ⟨0, by omega, rfl, ⟨⟨_, heap_alloc_new w1 _, rfl, fun j hj => absurd hj (by omega)⟩⟩, ⟨HB.out.alloc HB.out.size _⟩, ?_, ?_⟩
      · rw [World.cell?_alloc_lt w1 _ _ (show w.heap.size < w1.heap.size by omega)]; exact hc0
      · rw [World.cell?_alloc_lt w1 _ _ (show w.heap.size < w1.heap.size by omega)]; exact hc1
    case round =>
      clear hc0 hc1 HB
      obtain ⟨k, hk, rfl, HU, HB, hc0, hc1⟩ := hrel
      by_cases hlt : k < 6
      · obtain ⟨v0, hcell⟩ := HU.out.cell k (by omega)
        have hfz := HU.out.frozen k
        by_cases hin : k < a0_0.size
        · have hx : ∀ h : k < a0_0.size, ((a0_0[k]'h).toNat : Int) = bt a0_0 k := fun h => bt_at a0_0 k h
          have hb2 := lets_le HQ.out k hin
          have HX := Aside0.mk (show bt a0_0 k * 2 = putAt a0_0 k by unfold putAt; rw [if_pos hin])
          go_wp2
          go_roundw
          case rel =>
            refine ⟨k + 1, by omega, by go_num, ⟨(HU.out.set _).store (by omega) _ HX.out⟩, ⟨(HB.out.setCell (by simp; omega) _).setCell (by simp; omega) _⟩, ?_, ?_⟩
            · rw [World.cell?_setCell_other _ _ _ _ (HNE.out _ _), World.cell?_setCell_other _ _ _ _ (HNE.out _ _)]; exact hc0
            · rw [World.cell?_setCell_other _ _ _ _ (HNE.out _ _), World.cell?_setCell_other _ _ _ _ (HNE.out _ _)]; exact hc1
          case measure => simp [intOf]; omega
        · have HX := Aside0.mk (show 64 = putAt a0_0 k by unfold putAt; rw [if_neg hin])
          go_wp2
          go_roundw
          case rel =>
            refine ⟨k + 1, by omega, by go_num, ⟨HU.out.store (by omega) _ HX.out⟩, ⟨HB.out.setCell (by simp; omega) _⟩, ?_, ?_⟩
            · rw [World.cell?_setCell_other _ _ _ _ (HNE.out _ _)]; exact hc0
            · rw [World.cell?_setCell_other _ _ _ _ (HNE.out _ _)]; exact hc1
          case measure => simp [intOf]; omega
      · obtain rfl : k = 6 := by omega
        obtain ⟨v0, hcell⟩ := HU.out.cell 6 (by omega)
        have hfz := HU.out.frozen 6
        have hn0 := (right_lens HQ.out).2.2.1
        have hn15 := (right_lens HQ.out).2.2.2
        have HN0 := Aside0.mk hn0
        have HN15 := Aside0.mk hn15
        go_wp2_with (fail)
        have HE := Aside0.mk (end_wrap a0_1 HN0.out HN15.out a1 a2)
        have hcv := fun (n : Nat) => run_convert_bytes_arg (P := Tryd.prog) ((wr.drewN n).setCell ⟨w1.heap.size, 6, none⟩ (.int .u8 (bits BinOp.or IntKind.u8 (bits BinOp.or IntKind.u8 (bits BinOp.or IntKind.u8 (bitI a1 128) 96) (a0_1 * 2)) (bitI a2 1)))) 104 5 Tryd.underlying104 Tryd.underlying5 w1.heap.size 0 7 7 (putL a0_0 a0_1 a1 a2) rfl
          (fun j hj => (HU.out.drewN n).list HE.out j hj) 9 Tryd.underlying9
        go_region_with ((go_at_call 83; (with_reducible refine (bit_any _ _ _).mono ?_); rintro e w' ⟨rfl, ⟨nd, rfl⟩⟩))
        all_goals (go_wp2; go_ret2; exact ⟨rfl, (pw_below_drewN HB.out _).setCell (show w.heap.size ≤ w1.heap.size by omega) _⟩)
  · rename_i hr
    have HQ := Aside0.mk (show rightB a0_0 a0_1 = false by simpa using hr)
    simp only [Option.some.injEq, Prod.mk.injEq] at h
    obtain ⟨rfl, rfl⟩ := h
    clear hr
    go_enter Tryd.func52, Tryd.ntmps52
    go_wp2_with (go_at_call 40; (with_reducible refine (call_Right.calls a0_0 a0_1 false _ (by unfold call_Right.f; rw [if_pos hs, HQ.out])).mono ?_); rintro e w1 ⟨rfl, hb⟩)
    go_ret2
    exact ⟨rfl, below_then ((Below.refl _ _).alloc (Nat.le_refl _) _) (by simp) hb⟩
end Go.Proofs.YtpmieapgbdbabaaDoor.QAll
end

section
/- call.upper, walked by hand: a word with its small letters made great, for every word. -/
set_option linter.unusedVariables false
set_option linter.unusedSimpArgs false
namespace Go.Proofs.YtpmieapgbdbabaaDoor.QAll
open Go.RowKit Go.Proofs.YtpmieapgbdbabaaDoorW.PrintWords Go.Proofs.YtpmieapgbdbabaaDoorW.PrintLast Go.Proofs.YtpmieapgbdbabaaDoorW.PrintMore

/-- A small letter made great. -/
def upI (c : Int) : Int := if 97 ≤ c ∧ c ≤ 122 then c - 97 + 65 else c
def upL (s : ByteArray) : List Int := (bytesOf s).map upI
def upperS (s : ByteArray) : ByteArray := strOfNums (upL s)
def call_upper.f (a0 : ByteArray) : Option ByteArray := if a0.size ≤ 9223372036854775807 then some (upperS a0) else none
/-- Behind k rounds: block B holds the first k made great, the others as they were. -/
def UpAt (s : ByteArray) (B k : Nat) (w : World) : Prop := ∃ cur m, w.heap[B]? = some (.cells cur 5 (m, m + 1)) ∧ s.size ≤ m ∧
  ∀ j : Nat, j < s.size → cur[j]? = some (.int .u8 (if j < k then upI (bt s j) else bt s j))
theorem UpAt.cell {s : ByteArray} {B k : Nat} {w : World} (h : UpAt s B k w) (j : Nat) (hj : j < s.size) : w.cell? ⟨B, j, none⟩ = some (.int .u8 (if j < k then upI (bt s j) else bt s j)) := by
  obtain ⟨cur, m, hb, hm, hc⟩ := h
  simp only [World.cell?, hb]
  exact hc j hj
theorem UpAt.frozen {s : ByteArray} {B k : Nat} {w : World} (h : UpAt s B k w) (j : Nat) (hj : j < s.size) : w.frozen? ⟨B, j, none⟩ = false := by
  obtain ⟨cur, m, hb, hm, hc⟩ := h
  simp only [World.frozen?, hb]
  simp
  omega
end Go.Proofs.YtpmieapgbdbabaaDoor.QAll
end

section
/- strings.Cut at a separator of one byte, walked by hand over the shelf's contract of Index: what stands ahead of the first such byte, and behind it, for every text. -/
set_option linter.unusedVariables false
set_option linter.unusedSimpArgs false
namespace Go.Proofs.YtpmieapgbdbabaaDoor.QAll
open Go.RowKit Go.Proofs.YtpmieapgbdbabaaDoorW.PrintWords Go.Proofs.YtpmieapgbdbabaaDoorW.PrintLast Go.Proofs.YtpmieapgbdbabaaDoorW.PrintMore

/-- Where the first byte c stands; the length, if there is none. -/
def idxOf (s : ByteArray) (c : UInt8) : Nat := (Lib.indexByte s.data.toList c).toNat
def cutHas (s : ByteArray) (c : UInt8) : Bool := decide (0 ≤ Lib.indexByte s.data.toList c)
def cutA (s : ByteArray) (c : UInt8) : ByteArray := if cutHas s c = true then s.extract 0 (idxOf s c) else s
def cutB (s : ByteArray) (c : UInt8) : ByteArray := if cutHas s c = true then s.extract (idxOf s c + 1) s.size else ⟨#[]⟩

end Go.Proofs.YtpmieapgbdbabaaDoor.QAll
end

section
/- What the walks ask of the package's variables (the two errors of strconv, its table of powers, the search's limit), and that it holds on while nothing that was there is written. -/
set_option linter.unusedVariables false
namespace Go.Proofs.YtpmieapgbdbabaaDoor.QAll
open Go.RowKit Go.Proofs.YtpmieapgbdbabaaDoorW.PrintWords Go.Proofs.YtpmieapgbdbabaaDoorW.PrintLast Go.Proofs.YtpmieapgbdbabaaDoorW.PrintMore
structure EnvW (w : World) : Prop where
  mx : ∃ m, w.cell? ⟨0, 0, none⟩ = some (.int .i64 m)
  syn : ∃ ev, w.cell? ⟨1, 0, none⟩ = some ev ∧ (ev = .nilIface ∨ ∃ te pe, ev = .iface te pe)
  rng : ∃ ev, w.cell? ⟨2, 0, none⟩ = some ev ∧ (ev = .nilIface ∨ ∃ te pe, ev = .iface te pe)
  tab : Lib.TabIs Tryd.prog w "internal/strconv.uint64pow10" .u64 Lib.pow10Tab
theorem EnvW.below {w w' : World} (h : EnvW w) (hb : Below w.heap.size w w') : EnvW w' := by
  obtain ⟨⟨m, hm⟩, ⟨ev, hs, hs2⟩, ⟨ev2, hr, hr2⟩, ht⟩ := h
  refine ⟨⟨m, pw_cell_below hb hm⟩, ⟨ev, pw_cell_below hb hs, hs2⟩, ⟨ev2, pw_cell_below hb hr, hr2⟩, ?_⟩
  unfold Lib.TabIs World.var? at ht ⊢
  cases hg : Tryd.prog.globalNamed "internal/strconv.uint64pow10" with
  | none => simp [hg] at ht
  | some g =>
    simp only [hg, Option.bind_some] at ht ⊢
    have hlt : g < w.heap.size := by
      rcases Nat.lt_or_ge g w.heap.size with h' | h'
      · exact h'
      · simp [Array.getElem?_eq_none h'] at ht
    rw [hb.block g hlt]
    exact ht
end Go.Proofs.YtpmieapgbdbabaaDoor.QAll
end

section
/- call.Parse, walked by hand: the call of a word, or none and ErrCall, for every word. -/
set_option linter.unusedVariables false
set_option linter.unusedSimpArgs false
namespace Go.Proofs.YtpmieapgbdbabaaDoor.QAll
open Go.RowKit Go.Proofs.YtpmieapgbdbabaaDoorW.PrintWords Go.Proofs.YtpmieapgbdbabaaDoorW.PrintLast Go.Proofs.YtpmieapgbdbabaaDoorW.PrintMore

/-- The number behind the dash; none, if there is none so written. -/
def numOf (s : ByteArray) : Option Int := match Lib.atoiAll s.data.toList with
  | .ok v => if Lib.itoa v = s.data.toList then some v else none
  | _ => none
/-- What Parse tells. -/
def parseS (s : ByteArray) : ByteArray × Int × Int :=
  if cutHas (upperS s) 45 = true then
    match numOf (cutB (upperS s) 45) with
    | some v => if rightB (cutA (upperS s) 45) v = true then (cutA (upperS s) 45, v, 0) else (⟨#[]⟩, 0, 12)
    | none => (⟨#[]⟩, 0, 12)
  else if rightB (cutA (upperS s) 45) 0 = true then (cutA (upperS s) 45, 0, 0) else (⟨#[]⟩, 0, 12)
def call_Parse.f (a0 : ByteArray) : Option (ByteArray × Int × Int) := if a0.size ≤ 281474976710656 then some (parseS a0) else none

/-- A block of two cells, both written. -/
theorem two_set {w : World} {g : Nat} {a b x y : Value} {t : TypeId} (h : w.heap[g]? = some (.cells #[a, b] t (0, 0))) :
    ((w.setCell ⟨g, 0, none⟩ x).setCell ⟨g, 1, none⟩ y).heap[g]? = some (.cells #[x, y] t (0, 0)) := by
  simp [World.setCell, Array.getElem?_modify, h]
/-- What is laid open of a block of two cells. -/
theorem two_cell {w : World} {g : Nat} {a b : Value} {t : TypeId} (h : w.heap[g]? = some (.cells #[a, b] t (0, 0))) :
    w.cell? ⟨g, 0, none⟩ = some a ∧ w.cell? ⟨g, 1, none⟩ = some b ∧ w.frozen? ⟨g, 0, none⟩ = false ∧ w.frozen? ⟨g, 1, none⟩ = false := by
  simp [World.cell?, World.frozen?, h]

end Go.Proofs.YtpmieapgbdbabaaDoor.QAll
end

section
/- call.Get, walked by hand: the call of seven bytes, its marks, or none, for every text. -/
set_option linter.unusedVariables false
set_option linter.unusedSimpArgs false
namespace Go.Proofs.YtpmieapgbdbabaaDoor.QAll
open Go.RowKit Go.Proofs.YtpmieapgbdbabaaDoorW.PrintWords Go.Proofs.YtpmieapgbdbabaaDoorW.PrintLast Go.Proofs.YtpmieapgbdbabaaDoorW.PrintMore

def halfL (s : ByteArray) (k : Nat) : List Int := (List.range k).map fun j : Nat => bt s (j : Int) / 2
def getBase (s : ByteArray) : ByteArray := ⟨(Lib.trimRightB (strOfNums (halfL s 6)).data.toList 32).toArray⟩
/-- What Get tells. -/
def getS (s : ByteArray) : ByteArray × Int × Bool × Bool × Int :=
  if s.size < 7 then (⟨#[]⟩, 0, false, false, 4) else if 7 < s.size then (⟨#[]⟩, 0, false, false, 5)
  else if rightB (getBase s) (bt s 6 / 2 % 16) = true ∧ strOfNums (putL (getBase s) (bt s 6 / 2 % 16) (decide (128 ≤ bt s 6)) (decide (bt s 6 % 2 = 1))) = s
    then (getBase s, bt s 6 / 2 % 16, decide (128 ≤ bt s 6), decide (bt s 6 % 2 = 1), 0)
  else (⟨#[]⟩, 0, false, false, 2)
def call_Get.f (a0 : ByteArray) : Option (ByteArray × Int × Bool × Bool × Int) := if a0.size ≤ 9223372036854775807 then some (getS a0) else none

theorem results_cttt {P : Program} {fn : Func} {p u v x : Tmp} {ty : TypeId} (h : fn.results = #[.cell p ty, .tmp u, .tmp v, .tmp x]) (tmps : Array Value) (w : World) (g : Nat) (t : TypeId) (cs : Array Value) (fr : Nat × Nat) (d : TypeDesc)
    (hp : tmps.getD p undef = .pointer (some ⟨g, 0, none⟩)) (hg : w.heap[g]? = some (.cells cs t fr))
    (hu : P.underlying ty = some d) (hd : (match d with | .struct _ | .array _ _ => true | _ => false) = true) (hi : (P.info? ty).map (·.size) = some cs.size) :
    (results fn tmps).run P w = .ok (.tuple #[.agg cs, tmps.getD u undef, tmps.getD v undef, tmps.getD x undef]) w := by
  have hp' : tmps[p]?.getD undef = .pointer (some ⟨g, 0, none⟩) := by simpa using hp
  simp [results, h, hp', asAddr, run_loadVar_row w g t ty cs fr d hg hu hd hi]
theorem halfL_step (s : ByteArray) (k : Nat) : halfL s (k + 1) = halfL s k ++ [bt s k / 2] := by
  unfold halfL
  rw [List.range_succ, List.map_append]
  rfl
theorem halfL_len (s : ByteArray) (k : Nat) : (halfL s k).length = k := by simp [halfL]
theorem mark_bit (c : Int) (h : 0 ≤ c ∧ c ≤ 255) : (Go.bits .and .u8 c 128 != 0) = decide (128 ≤ c) := by
  have h1 : ∀ c : Fin 256, (Go.bits .and .u8 (c.val : Int) 128 != 0) = decide (128 ≤ (c.val : Int)) := by decide +kernel
  have := h1 ⟨c.toNat, by omega⟩
  rw [show ((⟨c.toNat, by omega⟩ : Fin 256).val : Int) = c by simp; omega] at this
  exact this
theorem last_bit (c : Int) (h : 0 ≤ c ∧ c ≤ 255) : (Go.bits .and .u8 c 1 != 0) = decide (c % 2 = 1) := by
  have h1 : ∀ c : Fin 256, (Go.bits .and .u8 (c.val : Int) 1 != 0) = decide ((c.val : Int) % 2 = 1) := by decide +kernel
  have := h1 ⟨c.toNat, by omega⟩
  rw [show ((⟨c.toNat, by omega⟩ : Fin 256).val : Int) = c by simp; omega] at this
  exact this
set_option maxHeartbeats 1000000 in
set_option maxRecDepth 100000 in
theorem call_Get.calls (a0 : ByteArray) (r1 : ByteArray) (r2 : Int) (r3 r4 : Bool) (r5 : Int) (w : World) (h : call_Get.f a0 = some (r1, r2, r3, r4, r5)) :
    Calls Tryd.prog 54 #[.string a0] w fun e w' => e = .returned (.tuple #[.agg #[.string r1, .int .i64 r2], .bool r3, .bool r4, .int .i64 r5]) ∧ Below w.heap.size w w' := by
  unfold call_Get.f at h
  split at h
  case isFalse => exact absurd h (by simp)
  rename_i hs
  have HR := Aside0.mk (Option.some.inj h)
  clear h
  have hu23 := Tryd.underlying23
  by_cases h1 : a0.size < 7
  · have hpr := HR.out
    rw [show getS a0 = (⟨#[]⟩, 0, false, false, 4) by unfold getS; rw [if_pos h1]] at hpr
    simp only [Prod.mk.injEq] at hpr
    obtain ⟨rfl, rfl, rfl, rfl, rfl⟩ := hpr
    clear HR
    go_enter Tryd.func54, Tryd.ntmps54
    go_wp2
    refine bodyPost_ret (results_cttt rfl _ _ w.heap.size 23 #[.string ⟨#[]⟩, .int .i64 0] (0, 0) _ rfl (heap_alloc_new w _) Tryd.underlying23 rfl (by kernel_rfl)) rfl ?_
    exact ⟨rfl, (Below.refl _ _).alloc (Nat.le_refl _) _⟩
  · by_cases h2 : 7 < a0.size
    · have hpr := HR.out
      rw [show getS a0 = (⟨#[]⟩, 0, false, false, 5) by unfold getS; rw [if_neg h1, if_pos h2]] at hpr
      simp only [Prod.mk.injEq] at hpr
      obtain ⟨rfl, rfl, rfl, rfl, rfl⟩ := hpr
      clear HR
      go_enter Tryd.func54, Tryd.ntmps54
      go_wp2
      refine bodyPost_ret (results_cttt rfl _ _ w.heap.size 23 #[.string ⟨#[]⟩, .int .i64 0] (0, 0) _ rfl (heap_alloc_new w _) Tryd.underlying23 rfl (by kernel_rfl)) rfl ?_
      exact ⟨rfl, (Below.refl _ _).alloc (Nat.le_refl _) _⟩
    · have h7 : a0.size = 7 := by omega
      have hb6 := bt_range a0 6
      have HB6 := Aside0.mk hb6
      have kb := fun W => print_bytes (P := Tryd.prog) 9 104 5 Tryd.underlying9 Tryd.underlying104 Tryd.underlying5 (a0.extract 0 6) W
      have hx6 : ∀ h : 6 < a0.size, ((a0[6]'h).toNat : Int) = bt a0 6 := fun h => bt_at a0 6 h
      go_enter Tryd.func54, Tryd.ntmps54
      go_wp2
      have hW2 : ∃ W2, W2 = Lib.bytesWorld (w.alloc (Obj.cells #[Value.string { data := #[] }, Value.int IntKind.i64 0] 23)) 5 (a0.extract 0 6) := ⟨_, rfl⟩
      obtain ⟨W2, hW2⟩ := hW2
      have hsz6 : (a0.extract 0 6).size = 6 := by simp [ByteArray.size_extract]; omega
      have HB2 := Aside0.mk (show Below w.heap.size w W2 by rw [hW2]; exact bytes_below ((Below.refl _ _).alloc (Nat.le_refl _) _) (by simp) _ _)
      have HR2 := Aside0.mk (show W2.heap[w.heap.size]? = some (.cells #[.string ⟨#[]⟩, .int .i64 0] 23 (0, 0)) by
        rw [hW2, (bytes_below (Below.refl _ (w.alloc (Obj.cells #[Value.string { data := #[] }, Value.int IntKind.i64 0] 23))) (Nat.le_refl _) 5 (a0.extract 0 6)).block w.heap.size (by simp)]
        exact heap_alloc_new w _)
      have HC2 := Aside0.mk (show ∀ j : Nat, j < 6 → W2.cell? ⟨w.heap.size + 1, j, none⟩ = some (.int .u8 (bt a0 j)) by
        intro j hj
        have z := Lib.bytesWorld_cell (w.alloc (Obj.cells #[Value.string { data := #[] }, Value.int IntKind.i64 0] 23)) 5 (a0.extract 0 6) j (by omega)
        have e : (w.alloc (Obj.cells #[Value.string { data := #[] }, Value.int IntKind.i64 0] 23)).heap.size = w.heap.size + 1 := by simp
        rw [e] at z
        rw [hW2, z, bt_data a0 j (by omega)]
        congr 3
        simp [ByteArray.data_extract, List.getD_eq_getElem?_getD, hj, show j < a0.size by omega])
      rw [← hW2]
      have HS2 := Aside0.mk (show w.heap.size + 2 ≤ W2.heap.size from World.block_lt_of_cell? _ _ (HC2.out 0 (by omega)))
      clear hW2 kb
      go_loopw [7, 31] (fun v7 v31 wr => ∃ k : Nat, k ≤ 6 ∧ v31 = .int .i64 k ∧ Aside0 (Kd.R (Kd.int .u8) 5 wr W2.heap.size (fun _ => True) v7 (halfL a0 k)) ∧ Aside0 (Below W2.heap.size W2 wr)) (fun v7 v31 _ => 6 - (intOf v31).toNat)
      case atStart => exact ⟨0, by omega, rfl, ⟨Kd.R_nil _ _ _ _ _⟩, ⟨Below.refl _ _⟩⟩
      case round =>
        obtain ⟨k, hk, rfl, HO, HB⟩ := hrel
        by_cases hlt : k < 6
        · have hcell := (HB.out.cell (World.block_lt_of_cell? _ _ (HC2.out k hlt))).trans (HC2.out k hlt)
          have hbk := bt_range a0 k
          have HBK := Aside0.mk hbk
          obtain ⟨y1, hy1⟩ : ∃ y, y = halfL a0 (k + 1) := ⟨_, rfl⟩
          have Ny := Aside0.mk (show y1 = halfL a0 k ++ [bt a0 k / 2] by rw [hy1, halfL_step])
          have HL := Aside0.mk (halfL_len a0 k)
          go_wp2_with (first | ((with_reducible refine gate_builtin (b := .append) (xs := #[.tmp 35, .tmp 38]) rfl ?_); at_builtin; refine Kd.R_append (Kd.int .u8) (w0 := W2) W2.heap.size rfl (.tmp 35) (.tmp 38) 104 5 (.int .u8 0) 1 rfl Tryd.underlying104 info5 rfl (by decide) (by omega) u7 (halfL a0 k) (bt a0 k / 2) [.int .u8 (bt a0 k / 2)] (fun _ => True) (fun _ => False) rfl rfl ?aP (fun _ hk => hk.elim) ?aF ?aO ?aB ?aS ?aL ?_; (case aP => exact rfl); (case aB => exact (by repeat (first | (with_reducible first | exact HB.out | apply below_alloc | apply pw_below_drewN | apply below_drew1) | exact HB.out))); (case aF => exact (fun _ _ => trivial)); (case aO => exact (by (with_reducible repeat (first | apply Kd.R_alloc | apply Kd.R_drewN | apply Kd.R_drew)); exact HO.out)); (case aS => exact (below_size (by repeat (first | (with_reducible first | exact HB.out | apply below_alloc | apply pw_below_drewN | apply below_drew1) | exact HB.out)))); (case aL => have := HL.out; omega); intro v357 w9 ho hb hg hat; rw [← Ny.out] at ho; have n0_ := Aside0.mk (hb); have n1_ := Aside0.mk (ho); clear HB; clear HO; have HB := n0_; have HO358 := n1_; clear n0_ n1_; clear ho hb hg hat))
          refine ⟨⟨k + 1, by omega, by go_num, ⟨by rw [← hy1]; exact HO358.out⟩, HB⟩, by simp [intOf]; omega⟩
        · obtain rfl : k = 6 := by omega
          have hcv10 := own_string (P := Tryd.prog) Tryd.underlying104 Tryd.underlying5 Tryd.underlying9 (Kd.own_of_R HO.out)
          have hT : (strOfNums (halfL a0 6)).size ≤ 9223372036854775807 := by show (List.toArray _).size ≤ _; simp [halfL]
          have HT := Aside0.mk hT
          clear hT
          have HSZ := Aside0.mk (show W2.heap.size ≤ wr.heap.size from HB.out.size)
          have HRr := Aside0.mk ((HB.out.block w.heap.size (by have := HS2.out; omega)).trans HR2.out)
          have HBw := Aside0.mk (below_then HB2.out (by have := HS2.out; omega) HB.out)
          have HSw := Aside0.mk (show w.heap.size + 2 ≤ wr.heap.size by have := HS2.out; have := HSZ.out; omega)
          go_wp2_with (go_at_call 84; (with_reducible refine (Tryd.strings_TrimRight_one (strOfNums (halfL a0 6)) 32 (by decide) _ HT.out).mono ?_); rintro e w' ⟨rfl, hw'⟩; subst hw')
          have HM := Aside0.mk (mark_bit (bt a0 6) HB6.out)
          have HLb := Aside0.mk (last_bit (bt a0 6) HB6.out)
          rw [HM.out, HLb.out]
          have hgb : (⟨(Lib.trimRightB (strOfNums (halfL a0 6)).data.toList 32).toArray⟩ : ByteArray) = getBase a0 := rfl
          simp only [hgb]
          have HG7 := Aside0.mk (show getS a0 = if rightB (getBase a0) (bt a0 6 / 2 % 16) = true ∧ strOfNums (putL (getBase a0) (bt a0 6 / 2 % 16) (decide (128 ≤ bt a0 6)) (decide (bt a0 6 % 2 = 1))) = a0
            then (getBase a0, bt a0 6 / 2 % 16, decide (128 ≤ bt a0 6), decide (bt a0 6 % 2 = 1), 0) else (⟨#[]⟩, 0, false, false, 2) by unfold getS; rw [if_neg h1, if_neg h2])
          have HBs := Aside0.mk (show (getBase a0).size ≤ 9223372036854775807 by
            show (List.toArray _).size ≤ _
            rw [List.size_toArray]
            unfold Lib.trimRightB
            rw [List.length_reverse]
            have h1 := (List.dropWhile_sublist (fun x => x == (32 : UInt8)) (l := (strOfNums (halfL a0 6)).data.toList.reverse)).length_le
            have h2 : (strOfNums (halfL a0 6)).data.toList.length = 6 := by simp [strOfNums, halfL]
            rw [List.length_reverse, h2] at h1
            omega)
          have HSw' := HSw.out
          cases hr : rightB (getBase a0) (bt a0 6 / 2 % 16) with
          | false =>
            have hpr := HR.out
            rw [HG7.out, hr, if_neg (by simp)] at hpr
            simp only [Prod.mk.injEq] at hpr
            obtain ⟨rfl, rfl, rfl, rfl, rfl⟩ := hpr
            refine (call_Put.calls (getBase a0) (bt a0 6 / 2 % 16) _ _ ⟨#[]⟩ 12 _ (by unfold call_Put.f; rw [if_pos HBs.out, hr]; rfl)).mono ?_
            rintro e w3 ⟨rfl, hb3⟩
            clear HR HG7 hr HBs
            have HR3 := Aside0.mk ((hb3.block w.heap.size (by simp; omega)).trans ((Below.heap_alloc _ _ _ (by omega)).trans HRr.out))
            have HB3 := Aside0.mk (below_then (HBw.out.alloc HBw.out.size _) (by simp; omega) hb3)
            clear hb3
            obtain ⟨k0, k1, k2, k3⟩ := two_cell HR3.out
            go_wp2_with (fail)
            refine bodyPost_ret (results_cttt rfl _ _ w.heap.size 23 #[.string ⟨#[]⟩, .int .i64 0] (0, 0) _ rfl (two_set HR3.out) Tryd.underlying23 rfl (by kernel_rfl)) rfl ?_
            exact ⟨rfl, (HB3.out.setCell (Nat.le_refl _) _).setCell (Nat.le_refl _) _⟩
          | true =>
            refine (call_Put.calls (getBase a0) (bt a0 6 / 2 % 16) _ _ (strOfNums (putL (getBase a0) (bt a0 6 / 2 % 16) (decide (128 ≤ bt a0 6)) (decide (bt a0 6 % 2 = 1)))) 0 _ (by unfold call_Put.f; rw [if_pos HBs.out, hr]; rfl)).mono ?_
            rintro e w3 ⟨rfl, hb3⟩
            have HR3 := Aside0.mk ((hb3.block w.heap.size (by simp; omega)).trans ((Below.heap_alloc _ _ _ (by omega)).trans HRr.out))
            have HC3 := Aside0.mk ((hb3.block w'.heap.size (by simp)).trans (heap_alloc_new w' _))
            have HB3 := Aside0.mk (below_then (HBw.out.alloc HBw.out.size _) (by simp; omega) hb3)
            clear hb3
            obtain ⟨k0, k1, k2, k3⟩ := two_cell HR3.out
            obtain ⟨d0, d1, d2, d3⟩ := two_cell HC3.out
            by_cases heq : strOfNums (putL (getBase a0) (bt a0 6 / 2 % 16) (decide (128 ≤ bt a0 6)) (decide (bt a0 6 % 2 = 1))) = a0
            · have hpr := HR.out
              rw [HG7.out, if_pos ⟨hr, heq⟩] at hpr
              simp only [Prod.mk.injEq] at hpr
              obtain ⟨rfl, rfl, rfl, rfl, rfl⟩ := hpr
              have hne : (!(strOfNums (putL (getBase a0) (bt a0 6 / 2 % 16) (decide (128 ≤ bt a0 6)) (decide (bt a0 6 % 2 = 1)))).toList == a0.toList) = false := by rw [heq]; simp
              clear HR HG7 hr HBs heq
              go_wp2_with (fail)
              refine bodyPost_ret (results_cttt rfl _ _ w.heap.size 23 #[.string (getBase a0), .int .i64 (bt a0 6 / 2 % 16)] (0, 0) _ rfl (two_set HR3.out) Tryd.underlying23 rfl (by kernel_rfl)) rfl ?_
              exact ⟨rfl, (HB3.out.setCell (Nat.le_refl _) _).setCell (Nat.le_refl _) _⟩
            · have hpr := HR.out
              rw [HG7.out, if_neg (fun h => heq h.2)] at hpr
              simp only [Prod.mk.injEq] at hpr
              obtain ⟨rfl, rfl, rfl, rfl, rfl⟩ := hpr
              have hne : (!(strOfNums (putL (getBase a0) (bt a0 6 / 2 % 16) (decide (128 ≤ bt a0 6)) (decide (bt a0 6 % 2 = 1)))).toList == a0.toList) = true := by
                rw [Bool.not_eq_true', beq_eq_false_iff_ne]
                intro h
                apply heq
                rw [Go.ByteArray.toList_eq, Go.ByteArray.toList_eq] at h
                generalize strOfNums _ = t at h ⊢
                cases t; cases a0
                congr 1
                exact Array.ext' h
              clear HR HG7 hr HBs heq
              go_wp2_with (fail)
              refine bodyPost_ret (results_cttt rfl _ _ w.heap.size 23 #[.string ⟨#[]⟩, .int .i64 0] (0, 0) _ rfl (two_set HR3.out) Tryd.underlying23 rfl (by kernel_rfl)) rfl ?_
              exact ⟨rfl, (HB3.out.setCell (Nat.le_refl _) _).setCell (Nat.le_refl _) _⟩
end Go.Proofs.YtpmieapgbdbabaaDoor.QAll
end

section
/- path.Get, walked by hand: the path with whose bytes a text begins, or none. -/
set_option linter.unusedVariables false
set_option linter.unusedSimpArgs false
namespace Go.Proofs.YtpmieapgbdbabaaDoor.QAll
open Go.RowKit Go.Proofs.YtpmieapgbdbabaaDoorW.PrintWords Go.Proofs.YtpmieapgbdbabaaDoorW.PrintLast Go.Proofs.YtpmieapgbdbabaaDoorW.PrintMore

theorem wp_scope_again {P : Program} {a : Act} {w : World} {Q : Exit → Act → World → Prop} {c r : Code} (l : Nat) (J : Act → World → Prop) (μ : Act → World → Nat) (hf : findLabel c l = some (.seq .skip r))
    (pass : ∀ a w, J a w → r.wp P (Exit.jump l (fun a' w' => J a' w' ∧ μ a' w' < μ a w) Q) a w)
    (first : (∀ a w, J a w → r.wp P (Exit.jump l J Q) a w) → c.wp P (Exit.jump l J Q) a w) : (Code.scope c).wp P Q a w :=
  wp_scope_jumps l J μ hf (first fun a w h => Code.wp_mono (fun e a' w' hq => by
    cases e with
    | goto l' => exact ⟨hq.1, hq.2.1⟩
    | _ => exact hq) (pass a w h)) (fun a w h => wp_seq (wp_skip (pass a w h)))
theorem frame76 (t : Array Value) (h : t.size = 76) : ∃ u : Nat → Value, t = #[u 0, u 1, u 2, u 3, u 4, u 5, u 6, u 7, u 8, u 9, u 10, u 11, u 12, u 13, u 14, u 15, u 16, u 17, u 18, u 19, u 20, u 21, u 22, u 23, u 24, u 25, u 26, u 27, u 28, u 29, u 30, u 31, u 32, u 33, u 34, u 35, u 36, u 37, u 38, u 39, u 40, u 41, u 42, u 43, u 44, u 45, u 46, u 47, u 48, u 49, u 50, u 51, u 52, u 53, u 54, u 55, u 56, u 57, u 58, u 59, u 60, u 61, u 62, u 63, u 64, u 65, u 66, u 67, u 68, u 69, u 70, u 71, u 72, u 73, u 74, u 75] ∧ ∀ i, t.getD i undef = u i := by
  refine ⟨fun i => t.getD i undef, ?_, fun _ => rfl⟩
  have e : t = ((List.range 76).map fun i => t.getD i undef).toArray := by
    apply Array.ext
    · simp [h]
    · intro i h1 h2
      simp [h1]
  conv => lhs; rw [e]
  rfl
theorem jump_ret {l : Nat} {J : Act → World → Prop} {Q : Exit → Act → World → Prop} {a : Act} {w : World} (h : Q .ret a w) : Exit.jump l J Q .ret a w := h
theorem then_goto {K : Act → World → Prop} {l : Nat} {J : Act → World → Prop} {Q : Exit → Act → World → Prop} {a : Act} {w : World} (h : J a w) : Exit.then K (Exit.jump l J Q) (.goto l) a w := ⟨rfl, h⟩
theorem results_ctt {P : Program} {fn : Func} {p u v : Tmp} {ty : TypeId} (h : fn.results = #[.cell p ty, .tmp u, .tmp v]) (tmps : Array Value) (w : World) (g : Nat) (t : TypeId) (cs : Array Value) (fr : Nat × Nat) (d : TypeDesc)
    (hp : tmps.getD p undef = .pointer (some ⟨g, 0, none⟩)) (hg : w.heap[g]? = some (.cells cs t fr))
    (hu : P.underlying ty = some d) (hd : (match d with | .struct _ | .array _ _ => true | _ => false) = true) (hi : (P.info? ty).map (·.size) = some cs.size) :
    (results fn tmps).run P w = .ok (.tuple #[.agg cs, tmps.getD u undef, tmps.getD v undef]) w := by
  have hp' : tmps[p]?.getD undef = .pointer (some ⟨g, 0, none⟩) := by simpa using hp
  simp [results, h, hp', asAddr, run_loadVar_row w g t ty cs fr d hg hu hd hi]
theorem below_two_ {B B' : Nat} {w W w' : World} (h1 : Below B w W) (h : B ≤ B') (h2 : Below B' W w') : Below B w w' :=
  ⟨h2.os.trans h1.os, h2.tape.trans h1.tape, h2.output.trans h1.output, Nat.le_trans h1.size h2.size, fun k hk => (h2.block k (Nat.lt_of_lt_of_le hk h)).trans (h1.block k hk)⟩
theorem two_cell' {w : World} {g : Nat} {a b : Value} {t : TypeId} (h : w.heap[g]? = some (.cells #[a, b] t (0, 0))) :
    w.cell? ⟨g, 0, none⟩ = some a ∧ w.cell? ⟨g, 1, none⟩ = some b ∧ w.frozen? ⟨g, 0, none⟩ = false ∧ w.frozen? ⟨g, 1, none⟩ = false := by
  simp [World.cell?, World.frozen?, h]
theorem seven_set {w : World} {g : Nat} {a0 a1 a2 a3 a4 a5 a6 x0 x1 x2 x3 x4 x5 x6 : Value} {t : TypeId} (h : w.heap[g]? = some (.cells #[a0, a1, a2, a3, a4, a5, a6] t (0, 0))) :
    (((((((w.setCell ⟨g, 0, none⟩ x0).setCell ⟨g, 1, none⟩ x1).setCell ⟨g, 2, none⟩ x2).setCell ⟨g, 3, none⟩ x3).setCell ⟨g, 4, none⟩ x4).setCell ⟨g, 5, none⟩ x5).setCell ⟨g, 6, none⟩ x6).heap[g]? = some (.cells #[x0, x1, x2, x3, x4, x5, x6] t (0, 0)) := by
  simp [World.setCell, Array.getElem?_modify, h]
theorem seven_below {n : Nat} {w W : World} {g : Nat} (h : Below n w W) (hg : n ≤ g) (x0 x1 x2 x3 x4 x5 x6 : Value) :
    Below n w (((((((W.setCell ⟨g, 0, none⟩ x0).setCell ⟨g, 1, none⟩ x1).setCell ⟨g, 2, none⟩ x2).setCell ⟨g, 3, none⟩ x3).setCell ⟨g, 4, none⟩ x4).setCell ⟨g, 5, none⟩ x5).setCell ⟨g, 6, none⟩ x6) :=
  ((((((h.setCell hg _).setCell hg _).setCell hg _).setCell hg _).setCell hg _).setCell hg _).setCell hg _
theorem seven_cell {w : World} {g : Nat} {a0 a1 a2 a3 a4 a5 a6 : Value} {t : TypeId} (h : w.heap[g]? = some (.cells #[a0, a1, a2, a3, a4, a5, a6] t (0, 0))) :
    (w.cell? ⟨g, 0, none⟩ = some a0 ∧ w.cell? ⟨g, 1, none⟩ = some a1 ∧ w.cell? ⟨g, 2, none⟩ = some a2 ∧ w.cell? ⟨g, 3, none⟩ = some a3 ∧ w.cell? ⟨g, 4, none⟩ = some a4 ∧ w.cell? ⟨g, 5, none⟩ = some a5 ∧ w.cell? ⟨g, 6, none⟩ = some a6) ∧
    (w.frozen? ⟨g, 0, none⟩ = false ∧ w.frozen? ⟨g, 1, none⟩ = false ∧ w.frozen? ⟨g, 2, none⟩ = false ∧ w.frozen? ⟨g, 3, none⟩ = false ∧ w.frozen? ⟨g, 4, none⟩ = false ∧ w.frozen? ⟨g, 5, none⟩ = false ∧ w.frozen? ⟨g, 6, none⟩ = false) := by
  simp [World.cell?, World.frozen?, h]
def RdOk (w w' : World) : Prop := ∀ a v, w.cell? a = some v → w'.cell? a = some v
theorem rdOk_refl (w : World) : RdOk w w := fun _ _ h => h
theorem rdOk_alloc {w w' : World} (h : RdOk w w') (o : Obj) : RdOk w (w'.alloc o) := fun a v hv => by
  have := h a v hv
  rw [World.cell?_alloc_lt]
  · exact this
  · exact World.block_lt_of_cell? w' a this
theorem seven_Q {α : Type} {d : Kd α} {e base : Nat} {w : World} {v : Value} {xs : List α} {g : Nat} (h : d.Q e w base (fun _ => True) v xs) (hg : g < base) (x0 x1 x2 x3 x4 x5 x6 : Value) :
    d.Q e (((((((w.setCell ⟨g, 0, none⟩ x0).setCell ⟨g, 1, none⟩ x1).setCell ⟨g, 2, none⟩ x2).setCell ⟨g, 3, none⟩ x3).setCell ⟨g, 4, none⟩ x4).setCell ⟨g, 5, none⟩ x5).setCell ⟨g, 6, none⟩ x6) base (fun _ => True) v xs :=
  Kd.Q_mono (Kd.Q_move (Kd.Q_bound h) (fun k hk => by
    have hne : k ≠ g := by have := hk.2.1; omega
    rw [Below.heap_setCell _ _ _ _ hne, Below.heap_setCell _ _ _ _ hne, Below.heap_setCell _ _ _ _ hne, Below.heap_setCell _ _ _ _ hne, Below.heap_setCell _ _ _ _ hne, Below.heap_setCell _ _ _ _ hne, Below.heap_setCell _ _ _ _ hne])) (fun _ _ => trivial)
def path_Get.T15 : Bool × List (List Nat × List Nat) := (true, [([], []), ([0], [0]), ([1], [1]), ([2], [2]), ([], []), ([4], [4]), ([5], [5]), ([6], [6]), ([], []), ([8], [8]), ([9], [9]), ([10], [10]), ([], []), ([12], [12]), ([13], [13]), ([14], [14]), ([], []), ([16], [16]), ([3, 7, 11, 15, 17], [3, 7, 11, 15, 17]), ([], []), ([19, 18, 0, 1, 2, 3, 4, 5, 6, 7, 8, 9, 10, 11, 12, 13, 14, 15, 16, 17, 18, 19], [18, 19])])
def path_Get.B15 : List Nat := [0, 1, 3, 7, 0, 16, 48, 112, 0, 256, 768, 1792, 0, 4096, 12288, 28672, 0, 65536, 262143, 0, 1048575]
theorem path_Get.tab15 : rtab .any (opsOf Tryd.f29 15) = path_Get.T15 := by kernel_rfl
theorem path_Get.bits15 : waitsOk path_Get.T15.2 path_Get.B15 = true := by kernel_rfl
/-- The entry that begins at the k-th seven bytes. -/
def pgT (s : ByteArray) (k : Nat) : ByteArray := s.extract (7 * k) (7 * k + 7)
def pgE (s : ByteArray) (k : Nat) : S93 := ⟨⟨(getS (pgT s k)).1, (getS (pgT s k)).2.1⟩, (getS (pgT s k)).2.2.1⟩
/-- What is told behind k entries, which are l. -/
def pgFrom (s : ByteArray) : Nat → Nat → List S93 → Nat × List S93 × Int
  | 0, _, _ => (0, [], 11)
  | f + 1, k, l =>
    if s.size < 7 * k + 7 then (0, [], 4)
    else if (getS (pgT s k)).2.2.2.2 ≠ 0 then (0, [], 2)
    else if k = 10 then (0, [], 11)
    else if (getS (pgT s k)).2.2.2.1 = false then pgFrom s f (k + 1) (l ++ [pgE s k])
    else if k = 0 then (0, [], 2)
    else if ordB ((l ++ [pgE s k]).drop 2) = true then (7 * k + 7, l ++ [pgE s k], 0) else (0, [], 11)
def pgS (s : ByteArray) : Nat × List S93 × Int := pgFrom s 11 0 []
def path_Get.f (a0 : ByteArray) : Option (ByteArray × Int × ByteArray × Int × Bool × Bool × List S93 × Int × Int) :=
  if a0.size ≤ 1000000 then some ((rd_T93 (pgS a0).2.1 0).f0.f0, (rd_T93 (pgS a0).2.1 0).f0.f1, (rd_T93 (pgS a0).2.1 1).f0.f0, (rd_T93 (pgS a0).2.1 1).f0.f1, (rd_T93 (pgS a0).2.1 0).f1, (rd_T93 (pgS a0).2.1 1).f1, (pgS a0).2.1.drop 2, ((pgS a0).1 : Int), (pgS a0).2.2) else none
set_option maxHeartbeats 4000000 in
set_option maxRecDepth 100000 in
theorem path_Get.calls (a0 : ByteArray) (r0 : ByteArray) (r1 : Int) (r2 : ByteArray) (r3 : Int) (r4 r5 : Bool) (r6 : List S93) (r7 r8 : Int) (w : World) (h : path_Get.f a0 = some (r0, r1, r2, r3, r4, r5, r6, r7, r8)) :
    Calls Tryd.prog 29 #[.string a0] w fun e w' => ∃ v6_ : Value, e = .returned (.tuple #[.agg #[.string r0, .int .i64 r1, .string r2, .int .i64 r3, .bool r4, .bool r5, v6_], .int .i64 r7, .int .i64 r8]) ∧ Kd.Q k93 93 w' w.heap.size (fun _ => True) v6_ r6 ∧ Below w.heap.size w w' := by
  unfold path_Get.f at h
  split at h
  case isFalse => cases h
  rename_i hs
  have HS := Aside0.mk hs
  have HR := Aside0.mk (Option.some.inj h)
  clear h hs
  have hu23 := Tryd.underlying23
  have hu26 := Tryd.underlying26
  have hu93 := Tryd.underlying93
  obtain ⟨w2, hw2⟩ : ∃ w2, w2 = w.alloc (.cells #[.string ⟨#[]⟩, .int .i64 0, .string ⟨#[]⟩, .int .i64 0, .bool false, .bool false, .slice none 0 0] 26) := ⟨_, rfl⟩
  have HB2 := Aside0.mk (show Below w.heap.size w w2 by rw [hw2]; exact (Below.refl _ _).alloc (Nat.le_refl _) _)
  have HK2 := Aside0.mk (show w2.heap[w.heap.size]? = some (.cells #[.string ⟨#[]⟩, .int .i64 0, .string ⟨#[]⟩, .int .i64 0, .bool false, .bool false, .slice none 0 0] 26 (0, 0)) by rw [hw2]; exact heap_alloc_new w _)
  have HZ2 := Aside0.mk (show w.heap.size + 1 ≤ w2.heap.size by rw [hw2]; simp)
  go_enter Tryd.func29, Tryd.ntmps29
  go_wp2
  refine wp_scope_again 0 (fun a' wr => ∃ (k : Nat) (l : List S93) (v5 : Value) (t : Array Value), a' = { tmps := t, defers := [] } ∧ t.size = 76 ∧ t.getD 0 undef = .string a0 ∧ t.getD 2 undef = .pointer (some ⟨w.heap.size, 0, none⟩) ∧ t.getD 3 undef = .int .i64 0 ∧ t.getD 4 undef = .int .i64 0 ∧ t.getD 5 undef = v5 ∧ t.getD 6 undef = .int .i64 ((7 * k : Nat) : Int) ∧ k ≤ 10 ∧ l.length = k ∧ Aside0 (pgFrom a0 (11 - k) k l = pgS a0) ∧ Aside0 (Kd.R k93 93 wr w2.heap.size (fun _ => True) v5 l) ∧ Aside0 (Below w2.heap.size w2 wr))
    (fun a' _ => 11 - (intOf (a'.tmps.getD 6 undef)).toNat / 7) (by rfl) ?pass ?first
  case pass =>
    rintro a' wr ⟨k, l, v5, t, rfl, hsz, g0, g2, g3, g4, g5, g6, hk, hkl, HG, HO, HB⟩
    clear hw2
    obtain ⟨u, rfl, hu⟩ := frame76 t hsz
    rw [hu 0] at g0
    rw [hu 2] at g2
    rw [hu 3] at g3
    rw [hu 4] at g4
    rw [hu 5] at g5
    rw [hu 6] at g6
    rw [g0, g2, g3, g4, g5, g6]
    clear g0 g2 g3 g4 g5 g6 hu hsz
    go_hide hQ
    have HSW := Aside0.mk (show w2.heap.size ≤ wr.heap.size from HB.out.size)
    have HKr := Aside0.mk ((HB.out.block w.heap.size (by have := HZ2.out; omega)).trans HK2.out)
    have HBw := Aside0.mk (below_then HB2.out (by have := HZ2.out; omega) HB.out)
    have hs := HS.out
    have HG1 := Aside0.mk (show pgFrom a0 (11 - k) k l = (if a0.size < 7 * k + 7 then (0, [], 4)
      else if (getS (pgT a0 k)).2.2.2.2 ≠ 0 then (0, [], 2)
      else if k = 10 then (0, [], 11)
      else if (getS (pgT a0 k)).2.2.2.1 = false then pgFrom a0 (10 - k) (k + 1) (l ++ [pgE a0 k])
      else if k = 0 then (0, [], 2)
      else if ordB ((l ++ [pgE a0 k]).drop 2) = true then (7 * k + 7, l ++ [pgE a0 k], 0) else (0, [], 11)) by
      conv => lhs; rw [show 11 - k = (10 - k) + 1 by omega]; unfold pgFrom)
    have HE := Aside0.mk (show ∀ x : Int, pgS a0 = (0, [], x) → r0 = ⟨#[]⟩ ∧ r1 = 0 ∧ r2 = ⟨#[]⟩ ∧ r3 = 0 ∧ r4 = false ∧ r5 = false ∧ r6 = [] ∧ r7 = 0 ∧ r8 = x by
      intro x hx
      have h0 := HR.out
      rw [hx] at h0
      simp only [Prod.mk.injEq] at h0
      obtain ⟨g0, g1, g2, g3, g4, g5, g6, g7, g8⟩ := h0
      exact ⟨g0.symm, g1.symm, g2.symm, g3.symm, g4.symm, g5.symm, g6.symm, g7.symm, g8.symm⟩)
    by_cases h1 : a0.size < 7 * k + 7
    · obtain ⟨rfl, rfl, rfl, rfl, rfl, rfl, rfl, rfl, rfl⟩ := HE.out 4 (by rw [← HG.out, HG1.out, if_pos h1])
      clear HE HG HG1 HR HSW HO HB
      obtain ⟨⟨k0, k1, k2, k3, k4, k5, k6⟩, f0, f1, f2, f3, f4, f5, f6⟩ := seven_cell HKr.out
      go_wp2_with (fail)
      subst hQ
      refine jump_ret ?_
      refine bodyPost_ret (results_ctt rfl _ _ w.heap.size 26 _ (0, 0) _ rfl (seven_set HKr.out) Tryd.underlying26 rfl (by kernel_rfl)) rfl ?_
      exact ⟨_, rfl, Kd.Q_nil _ _ _ _ _, seven_below HBw.out (Nat.le_refl _) _ _ _ _ _ _ _⟩
    · have hlo : 7 * k + 7 ≤ a0.size := by omega
      obtain ⟨⟨b, q, m, la, e⟩, hg⟩ : ∃ x, getS (pgT a0 k) = x := ⟨_, rfl⟩
      have hpe : pgE a0 k = ⟨⟨b, q⟩, m⟩ := by unfold pgE; rw [hg]
      have HG2 := Aside0.mk (show pgS a0 = if e ≠ 0 then (0, [], 2) else if k = 10 then (0, [], 11) else if la = false then pgFrom a0 (10 - k) (k + 1) (l ++ [(⟨⟨b, q⟩, m⟩ : S93)])
        else if k = 0 then (0, [], 2) else if ordB ((l ++ [(⟨⟨b, q⟩, m⟩ : S93)]).drop 2) = true then (7 * k + 7, l ++ [(⟨⟨b, q⟩, m⟩ : S93)], 0) else (0, [], 11) by
        rw [← HG.out, HG1.out, if_neg h1, hg, hpe])
      have HGt := Aside0.mk (show call_Get.f (pgT a0 k) = some (b, q, m, la, e) by
        unfold call_Get.f
        rw [if_pos (by unfold pgT; simp only [ByteArray.size_extract]; omega), hg])
      have hsl : ∀ W : World, (Instr.slice 9 (.string a0) (some (.int .i64 (7 * (k : Int)))) (some (.int .i64 (7 * (k : Int) + 7))) none).run Tryd.prog W = .ok (.string (pgT a0 k)) W := by
        intro W
        rw [Go.run_slice_string_if (P := Tryd.prog) (w := W) 9 a0 .i64 .i64 (7 * (k : Int)) (7 * (k : Int) + 7) Tryd.underlying9, if_pos (by omega), if_pos (by omega)]
        unfold pgT
        rw [show (7 * (k : Int)).toNat = 7 * k by omega, show (7 * (k : Int) + 7).toNat = 7 * k + 7 by omega]
      clear HG1 HG hg hpe
      go_wp2_with (fail)
      refine (call_Get.calls (pgT a0 k) b q m la e _ HGt.out).mono ?_
      rintro ex w3 ⟨rfl, hb3⟩
      have HK3 := Aside0.mk ((hb3.block w.heap.size (by have := HSW.out; have := HZ2.out; omega)).trans HKr.out)
      have HB3 := Aside0.mk (below_then HBw.out HBw.out.size hb3)
      have HBx3 := Aside0.mk (below_then HB.out HB.out.size hb3)
      have HO3 := Aside0.mk (Kd.R_below HO.out hb3)
      have hsw3 : w.heap.size + 1 ≤ w3.heap.size := by have := HSW.out; have := HZ2.out; have := hb3.size; omega
      clear HKr HBw HB HO hb3 hsl HGt
      go_upto_region 6 with fail
      have HK4 := Aside0.mk ((Below.heap_alloc w3 (.cells #[.string b, .int .i64 q] 23) w.heap.size (by omega)).trans HK3.out)
      have HC4 := Aside0.mk (heap_alloc_new w3 (.cells #[.string b, .int .i64 q] 23))
      have HB4 := Aside0.mk (HB3.out.alloc (by omega) (.cells #[.string b, .int .i64 q] 23))
      have HBx4 := Aside0.mk (HBx3.out.alloc HBx3.out.size (.cells #[.string b, .int .i64 q] 23))
      have HO4 := Aside0.mk (Kd.R_alloc HO3.out (.cells #[.string b, .int .i64 q] 23))
      have HZ4 := Aside0.mk (show w.heap.size + 1 ≤ (w3.alloc (.cells #[.string b, .int .i64 q] 23)).heap.size by simp; omega)
      clear HK3 HB3 HBx3 HO3
      generalize w3.alloc (.cells #[.string b, .int .i64 q] 23) = w4 at HK4 HC4 HB4 HBx4 HO4 HZ4 ⊢
      obtain ⟨d0, d1, d2, d3⟩ := two_cell' HC4.out
      obtain ⟨⟨k0, k1, k2, k3, k4, k5, k6⟩, f0, f1, f2, f3, f4, f5, f6⟩ := seven_cell HK4.out
      by_cases he : e = 0
      · subst he
        go_upto_region 8 with fail
        by_cases h10 : k = 10
        · subst h10
          obtain ⟨rfl, rfl, rfl, rfl, rfl, rfl, rfl, rfl, rfl⟩ := HE.out 11 (by rw [HG2.out, if_neg (by simp), if_pos rfl])
          obtain ⟨A5, c5, rfl, hle5, hC5⟩ := Kd.R_reads HO4.out
          clear HE HG2 HR HSW hC5
          rw [hkl]
          go_wp2_with (fail)
          subst hQ
          refine jump_ret ?_
          refine bodyPost_ret (results_ctt rfl _ _ w.heap.size 26 _ (0, 0) _ rfl (seven_set HK4.out) Tryd.underlying26 rfl (by kernel_rfl)) rfl ?_
          exact ⟨_, rfl, Kd.Q_nil _ _ _ _ _, seven_below HB4.out (Nat.le_refl _) _ _ _ _ _ _ _⟩
        · have HG3 := Aside0.mk (show pgS a0 = if la = false then pgFrom a0 (10 - k) (k + 1) (l ++ [(⟨⟨b, q⟩, m⟩ : S93)])
            else if k = 0 then (0, [], 2) else if ordB ((l ++ [(⟨⟨b, q⟩, m⟩ : S93)]).drop 2) = true then (7 * k + 7, l ++ [(⟨⟨b, q⟩, m⟩ : S93)], 0) else (0, [], 11) by rw [HG2.out, if_neg (by simp), if_neg h10])
          clear HG2
          have HL4 := Aside0.mk (show (l.length + 1) * 32 ≤ 140737488355328 by omega)
          obtain ⟨A5, c5, rfl, hle5, hC5⟩ := Kd.R_reads HO4.out
          clear hC5
          have hlk : ((l.length : Int) == 10) = false := by rw [beq_eq_false_iff_ne]; omega
          go_upto_region 11 with (first | ((with_reducible refine gate_builtin (b := .append) (xs := #[.tmp 36, .tmp 40]) rfl ?_); at_builtin; refine Kd.R_append k93 (w0 := w2) w2.heap.size rfl (.tmp 36) (.tmp 40) 24 93 (.agg #[(.string ⟨#[]⟩), (.int .i64 0), (.bool false)]) 32 rfl Tryd.underlying24 info93 rfl (by decide) (by omega) (.slice A5 l.length c5) l ⟨⟨b, q⟩, m⟩ [.string b, .int .i64 q, .bool m] (fun _ => True) (fun _ => False) rfl rfl ?aP (fun _ hk => hk.elim) ?aF ?aO ?aB ?aS ?aL ?_; (case aP => exact k93_mkM _ _ _ _); (case aB => exact HBx4.out); (case aF => exact (fun _ _ => trivial)); (case aO => exact HO4.out); (case aS => exact (below_size HBx4.out)); (case aL => exact HL4.out); intro v9 w9 ho hb hgg hat))
          have HO9 := Aside0.mk ho
          have HBx9 := Aside0.mk hb
          have HK9 := Aside0.mk ((hb.block w.heap.size (by have := HZ2.out; omega)).trans HK2.out)
          have HB9 := Aside0.mk (below_two_ HB2.out (by have := HZ2.out; omega) hb)
          have hsw9 : w.heap.size + 1 ≤ w9.heap.size := by have := HZ2.out; have := hb.size; omega
          clear ho hb hgg hat HO4 HBx4 HK4 HB4 HC4 HZ4 HL4 hlk d0 d1 d2 d3 k0 k1 k2 k3 k4 k5 k6 f0 f1 f2 f3 f4 f5 f6 hsw3 hle5
          cases la with
          | false =>
            go_wp2_with (fail)
            go_step3
            subst hQ
            refine then_goto ?_
            refine ⟨⟨k + 1, l ++ [(⟨⟨b, q⟩, m⟩ : S93)], v9, _, rfl, rfl, rfl, rfl, rfl, rfl, rfl, by show Value.int .i64 _ = Value.int .i64 _; congr 1 <;> omega, by omega, by simp [hkl], ⟨by rw [HG3.out, show 11 - (k + 1) = 10 - k by omega]; simp⟩, HO9, HBx9⟩, ?_⟩
            show 11 - (intOf (Value.int .i64 _)).toNat / 7 < 11 - (intOf (Value.int .i64 _)).toNat / 7
            simp only [intOf]
            omega
          | true =>
            by_cases hk0 : k = 0
            · subst hk0
              obtain ⟨rfl, rfl, rfl, rfl, rfl, rfl, rfl, rfl, rfl⟩ := HE.out 2 (by rw [HG3.out, if_neg (by simp), if_pos rfl])
              have HLn := Aside0.mk (show (l ++ [(⟨⟨b, q⟩, m⟩ : S93)]).length = 1 by simp [hkl])
              clear HE HG3 HR
              obtain ⟨A6, c6, rfl, hle6, hC6⟩ := Kd.R_reads HO9.out
              clear hC6 HO9 hle6
              rw [HLn.out]
              obtain ⟨⟨k0, k1, k2, k3, k4, k5, k6⟩, f0, f1, f2, f3, f4, f5, f6⟩ := seven_cell HK9.out
              go_wp2_with (fail)
              subst hQ
              refine jump_ret ?_
              refine bodyPost_ret (results_ctt rfl _ _ w.heap.size 26 _ (0, 0) _ rfl (seven_set HK9.out) Tryd.underlying26 rfl (by kernel_rfl)) rfl ?_
              exact ⟨_, rfl, Kd.Q_nil _ _ _ _ _, seven_below HB9.out (Nat.le_refl _) _ _ _ _ _ _ _⟩
            · have HG4 := Aside0.mk (show pgS a0 = if ordB ((l ++ [(⟨⟨b, q⟩, m⟩ : S93)]).drop 2) = true then (7 * k + 7, l ++ [(⟨⟨b, q⟩, m⟩ : S93)], 0) else (0, [], 11) by rw [HG3.out, if_neg (by simp), if_neg hk0])
              have HLn := Aside0.mk (show (l ++ [(⟨⟨b, q⟩, m⟩ : S93)]).length = k + 1 by simp [hkl])
              clear HG3
              obtain ⟨L, hL⟩ : ∃ L, L = l ++ [(⟨⟨b, q⟩, m⟩ : S93)] := ⟨_, rfl⟩
              rw [← hL] at HG4 HLn HO9
              clear hL hkl
              obtain ⟨g, c6, rfl, hgle, hglt, gcs, hgb⟩ := Kd.R_form HO9.out (by have := HLn.out; omega)
              obtain ⟨_, hle6, hC6⟩ := Kd.R_reads' HO9.out
              obtain ⟨ad, e', x0, x1, x2⟩ := at_T93 hC6 0 (by omega) (by have := HLn.out; omega)
              cases e'
              obtain ⟨ad', e', y0, y1, y2⟩ := at_T93 hC6 1 (by omega) (by have := HLn.out; omega)
              cases e'
              replace x0 : w9.cell? ⟨g, 0, none⟩ = some (.string (rd_T93 L 0).f0.f0) := x0
              replace x1 : w9.cell? ⟨g, 1, none⟩ = some (.int .i64 (rd_T93 L 0).f0.f1) := x1
              replace x2 : w9.cell? ⟨g, 2, none⟩ = some (.bool (rd_T93 L 0).f1) := x2
              replace y0 : w9.cell? ⟨g, 3, none⟩ = some (.string (rd_T93 L 1).f0.f0) := y0
              replace y1 : w9.cell? ⟨g, 4, none⟩ = some (.int .i64 (rd_T93 L 1).f0.f1) := y1
              replace y2 : w9.cell? ⟨g, 5, none⟩ = some (.bool (rd_T93 L 1).f1) := y2
              clear hgb hgle
              obtain ⟨i0, hi0, _, hsz0, _⟩ := info_parts info93
              have hcut := cut_from (P := Tryd.prog) 24 93 .i64 Tryd.underlying24 hi0 3 hsz0 (some ⟨g, 0, none⟩) L.length c6 2 (by omega) (by have := HLn.out; omega)
              have hQ9 := Kd.Q_drop (k := 2) (Kd.Q_of_R HO9.out) (by have := HLn.out; omega)
              have HQ9 := Aside0.mk hQ9
              clear hQ9 hi0 hsz0 hC6
              rw [HLn.out] at hcut HQ9 hle6
              rw [HLn.out]
              obtain ⟨Ac, hAc⟩ : ∃ A : Option Addr, A = (if c6 = 2 then some ⟨g, 0, none⟩ else some ⟨g, 6, none⟩) := ⟨_, rfl⟩
              obtain ⟨D, hD⟩ : ∃ D, D = L.drop 2 := ⟨_, rfl⟩
              obtain ⟨cc, hcc⟩ : ∃ c, c = c6 - 2 := ⟨_, rfl⟩
              have hDl : D.length = k - 1 := by rw [hD, List.length_drop, HLn.out]; omega
              have HDl := Aside0.mk hDl
              have hccl := Aside0.mk (show D.length ≤ cc by omega)
              replace hcut : ∀ W : World, (Instr.slice 24 (.slice (some ⟨g, 0, none⟩) (k + 1) c6) (some (.int .i64 2)) none none).run Tryd.prog W = .ok (.slice Ac D.length cc) W := by
                intro W
                rw [hcut W, hAc, hDl, hcc]
                congr 2
              replace HQ9 : Aside0 (Kd.Q k93 93 w9 w2.heap.size (fun _ => True) (.slice Ac D.length cc) D) := ⟨by rw [hAc, hDl, hD, hcc]; exact HQ9.out⟩
              have HD := Aside0.mk hD
              clear hAc hD hcc hDl
              have hk1 : (1 : Int) < (k : Int) + 1 := by omega
              subst hQ
              go_upto_region 15 with fail
              replace x0 : w9.drew.cell? ⟨g, 0, none⟩ = some (.string (rd_T93 L 0).f0.f0) := x0
              replace x1 : w9.drew.cell? ⟨g, 1, none⟩ = some (.int .i64 (rd_T93 L 0).f0.f1) := x1
              replace x2 : w9.drew.cell? ⟨g, 2, none⟩ = some (.bool (rd_T93 L 0).f1) := x2
              replace y0 : w9.drew.cell? ⟨g, 3, none⟩ = some (.string (rd_T93 L 1).f0.f0) := y0
              replace y1 : w9.drew.cell? ⟨g, 4, none⟩ = some (.int .i64 (rd_T93 L 1).f0.f1) := y1
              replace y2 : w9.drew.cell? ⟨g, 5, none⟩ = some (.bool (rd_T93 L 1).f1) := y2
              refine start_ (n := 21) (S := fun w' => True) (ds := []) #[false, false, false, false, false, false, false, false, false, false, false, false, false, false, false, false, false, false, false, false, false] (by kernel_rfl) rfl rfl trivial (fun hHeld => ?_)
              refine with_tabW path_Get.tab15 path_Get.bits15 (fun HT_ HW_ => ?_)
              generalize hw10 : w9.drew = w10 at x0 x1 x2 y0 y1 y2 hHeld ⊢
              have FR := Aside0.mk (rdOk_refl w10)
              have FA := Aside0.mk (rfl : w10 = w10)
              refine pure_ (i := 0) (N := some 50) (v := ?_) (a' := ?_) #[true, false, false, false, false, false, false, false, false, false, false, false, false, false, false, false, false, false, false, false, false] rfl rfl (any_of HT_.out (by kernel_rfl)) (fun _ _ _ h => h) (Or.inl ⟨by rfl, ?_⟩) ?_ ?_
              rotate_left
              · intro w'
                go_simp
                with_reducible rfl
              rotate_left
              · simp only [Act.put, List.setIfInBounds_toArray, List.set_cons_zero, List.set_cons_succ, i64_w, i32_w]
                rfl
              refine pure_ (i := 1) (N := some 51) (v := ?_) (a' := ?_) #[true, true, false, false, false, false, false, false, false, false, false, false, false, false, false, false, false, false, false, false, false] rfl rfl (any_of HT_.out (by kernel_rfl)) (fun _ _ _ h => h) (Or.inl ⟨by rfl, ?_⟩) ?_ ?_
              rotate_left
              · intro w'
                go_simp
                with_reducible rfl
              rotate_left
              · simp only [Act.put, List.setIfInBounds_toArray, List.set_cons_zero, List.set_cons_succ, i64_w, i32_w]
                rfl
              refine pure_ (i := 2) (N := some 52) (v := ?_) (a' := ?_) #[true, true, true, false, false, false, false, false, false, false, false, false, false, false, false, false, false, false, false, false, false] rfl rfl (any_of HT_.out (by kernel_rfl)) (fun _ _ _ h => h) (Or.inl ⟨by rfl, ?_⟩) ?_ ?_
              rotate_left
              · intro w'
                go_simp
                with_reducible rfl
              rotate_left
              · simp only [Act.put, List.setIfInBounds_toArray, List.set_cons_zero, List.set_cons_succ, i64_w, i32_w]
                rfl
              refine pure_ (i := 4) (N := some 54) (v := ?_) (a' := ?_) #[true, true, true, false, true, false, false, false, false, false, false, false, false, false, false, false, false, false, false, false, false] rfl rfl (any_of HT_.out (by kernel_rfl)) (fun _ _ _ h => h) (Or.inl ⟨by rfl, ?_⟩) ?_ ?_
              rotate_left
              · intro w'
                go_simp
                with_reducible rfl
              rotate_left
              · simp only [Act.put, List.setIfInBounds_toArray, List.set_cons_zero, List.set_cons_succ, i64_w, i32_w]
                rfl
              refine pure_ (i := 5) (N := some 55) (v := ?_) (a' := ?_) #[true, true, true, false, true, true, false, false, false, false, false, false, false, false, false, false, false, false, false, false, false] rfl rfl (any_of HT_.out (by kernel_rfl)) (fun _ _ _ h => h) (Or.inl ⟨by rfl, ?_⟩) ?_ ?_
              rotate_left
              · intro w'
                go_simp
                with_reducible rfl
              rotate_left
              · simp only [Act.put, List.setIfInBounds_toArray, List.set_cons_zero, List.set_cons_succ, i64_w, i32_w]
                rfl
              refine pure_ (i := 6) (N := some 56) (v := ?_) (a' := ?_) #[true, true, true, false, true, true, true, false, false, false, false, false, false, false, false, false, false, false, false, false, false] rfl rfl (any_of HT_.out (by kernel_rfl)) (fun _ _ _ h => h) (Or.inl ⟨by rfl, ?_⟩) ?_ ?_
              rotate_left
              · intro w'
                go_simp
                with_reducible rfl
              rotate_left
              · simp only [Act.put, List.setIfInBounds_toArray, List.set_cons_zero, List.set_cons_succ, i64_w, i32_w]
                rfl
              refine pure_ (i := 8) (N := some 58) (v := ?_) (a' := ?_) #[true, true, true, false, true, true, true, false, true, false, false, false, false, false, false, false, false, false, false, false, false] rfl rfl (any_of HT_.out (by kernel_rfl)) (fun _ _ _ h => h) (Or.inl ⟨by rfl, ?_⟩) ?_ ?_
              rotate_left
              · intro w'
                go_simp
                with_reducible rfl
              rotate_left
              · simp only [Act.put, List.setIfInBounds_toArray, List.set_cons_zero, List.set_cons_succ, i64_w, i32_w]
                rfl
              refine pure_ (i := 9) (N := some 59) (v := ?_) (a' := ?_) #[true, true, true, false, true, true, true, false, true, true, false, false, false, false, false, false, false, false, false, false, false] rfl rfl (any_of HT_.out (by kernel_rfl)) (fun _ _ _ h => h) (Or.inl ⟨by rfl, ?_⟩) ?_ ?_
              rotate_left
              · intro w'
                go_simp
                with_reducible rfl
              rotate_left
              · simp only [Act.put, List.setIfInBounds_toArray, List.set_cons_zero, List.set_cons_succ, i64_w, i32_w]
                rfl
              refine pure_ (i := 10) (N := some 60) (v := ?_) (a' := ?_) #[true, true, true, false, true, true, true, false, true, true, true, false, false, false, false, false, false, false, false, false, false] rfl rfl (any_of HT_.out (by kernel_rfl)) (fun _ _ _ h => h) (Or.inl ⟨by rfl, ?_⟩) ?_ ?_
              rotate_left
              · intro w'
                go_simp
                with_reducible rfl
              rotate_left
              · simp only [Act.put, List.setIfInBounds_toArray, List.set_cons_zero, List.set_cons_succ, i64_w, i32_w]
                rfl
              refine pure_ (i := 12) (N := some 62) (v := ?_) (a' := ?_) #[true, true, true, false, true, true, true, false, true, true, true, false, true, false, false, false, false, false, false, false, false] rfl rfl (any_of HT_.out (by kernel_rfl)) (fun _ _ _ h => h) (Or.inl ⟨by rfl, ?_⟩) ?_ ?_
              rotate_left
              · intro w'
                go_simp
                with_reducible rfl
              rotate_left
              · simp only [Act.put, List.setIfInBounds_toArray, List.set_cons_zero, List.set_cons_succ, i64_w, i32_w]
                rfl
              refine pure_ (i := 13) (N := some 63) (v := ?_) (a' := ?_) #[true, true, true, false, true, true, true, false, true, true, true, false, true, true, false, false, false, false, false, false, false] rfl rfl (any_of HT_.out (by kernel_rfl)) (fun _ _ _ h => h) (Or.inl ⟨by rfl, ?_⟩) ?_ ?_
              rotate_left
              · intro w'
                go_simp
                with_reducible rfl
              rotate_left
              · simp only [Act.put, List.setIfInBounds_toArray, List.set_cons_zero, List.set_cons_succ, i64_w, i32_w]
                rfl
              refine pure_ (i := 14) (N := some 64) (v := ?_) (a' := ?_) #[true, true, true, false, true, true, true, false, true, true, true, false, true, true, true, false, false, false, false, false, false] rfl rfl (any_of HT_.out (by kernel_rfl)) (fun _ _ _ h => h) (Or.inl ⟨by rfl, ?_⟩) ?_ ?_
              rotate_left
              · intro w'
                go_simp
                with_reducible rfl
              rotate_left
              · simp only [Act.put, List.setIfInBounds_toArray, List.set_cons_zero, List.set_cons_succ, i64_w, i32_w]
                rfl
              refine pure_ (i := 16) (N := some 66) (v := ?_) (a' := ?_) #[true, true, true, false, true, true, true, false, true, true, true, false, true, true, true, false, true, false, false, false, false] rfl rfl (any_of HT_.out (by kernel_rfl)) (fun _ _ _ h => h) (Or.inl ⟨by rfl, ?_⟩) ?_ ?_
              rotate_left
              · intro w'
                go_simp
                with_reducible rfl
              rotate_left
              · simp only [Act.put, List.setIfInBounds_toArray, List.set_cons_zero, List.set_cons_succ, i64_w, i32_w]
                rfl
              refine pure_ (i := 17) (N := some 67) (v := ?_) (a' := ?_) #[true, true, true, false, true, true, true, false, true, true, true, false, true, true, true, false, true, true, false, false, false] rfl rfl (any_of HT_.out (by kernel_rfl)) (fun _ _ _ h => h) (Or.inl ⟨by rfl, ?_⟩) ?_ ?_
              rotate_left
              · intro w'
                go_simp
                with_reducible rfl
              rotate_left
              · simp only [Act.put, List.setIfInBounds_toArray, List.set_cons_zero, List.set_cons_succ, i64_w, i32_w]
                rfl
              refine inv_at [3, 7, 11, 15, 18, 19, 20] (fun a0_ b a w' => a = putSel a0_ b [(3, 53, .agg #[.string (rd_T93 L 0).f0.f0, .int .i64 (rd_T93 L 0).f0.f1]), (7, 57, .agg #[.string (rd_T93 L 1).f0.f0, .int .i64 (rd_T93 L 1).f0.f1]), (11, 61, .bool (rd_T93 L 0).f1), (15, 65, .bool (rd_T93 L 1).f1), (18, 68, .agg #[.string (rd_T93 L 0).f0.f0, .int .i64 (rd_T93 L 0).f0.f1, .string (rd_T93 L 1).f0.f0, .int .i64 (rd_T93 L 1).f0.f1, .bool (rd_T93 L 0).f1, .bool (rd_T93 L 1).f1, .slice Ac D.length cc]), (19, 11, .pointer (some ⟨w10.heap.size, 0, none⟩))] ∧ (b 20 = false → RdOk w10 w') ∧ (b 19 = false → w' = w10) ∧ (b 19 = true → b 20 = false → w' = w10.alloc (.cells #[.string ⟨#[]⟩, .int .i64 0, .string ⟨#[]⟩, .int .i64 0, .bool false, .bool false, .slice none 0 0] 26)) ∧ (b 20 = true → w' = (((((((w10.alloc (.cells #[.string ⟨#[]⟩, .int .i64 0, .string ⟨#[]⟩, .int .i64 0, .bool false, .bool false, .slice none 0 0] 26)).setCell ⟨w10.heap.size, 0, none⟩ (.string (rd_T93 L 0).f0.f0)).setCell ⟨w10.heap.size, 1, none⟩ (.int .i64 (rd_T93 L 0).f0.f1)).setCell ⟨w10.heap.size, 2, none⟩ (.string (rd_T93 L 1).f0.f0)).setCell ⟨w10.heap.size, 3, none⟩ (.int .i64 (rd_T93 L 1).f0.f1)).setCell ⟨w10.heap.size, 4, none⟩ (.bool (rd_T93 L 0).f1)).setCell ⟨w10.heap.size, 5, none⟩ (.bool (rd_T93 L 1).f1)).setCell ⟨w10.heap.size, 6, none⟩ (.slice Ac D.length cc))) HT_.out HW_.out (by kernel_rfl) (by kernel_rfl) ?_ ?_ ?_
              · exact ⟨by simp only [putSel, Bool.false_eq_true, if_false], fun _ => FR.out, fun _ => FA.out, fun h_ => absurd h_ (by decide), fun h_ => absurd h_ (by decide)⟩
              · skip
                clear FA FR
                refine steps_cons ?_ ?_
                · rintro b a w' ⟨ha, Q_FR, Q_FA, Q_FB, Q_FC⟩ hb_ hon hoff
                  refine ⟨_, rfl, fun K hK => ?_⟩
                  have e52 : a.tmps[52]? = some (.pointer (some ⟨g, 0, none⟩)) := by rw [ha]; exact (putSel_off rfl).trans rfl
                  replace ha := Aside0.mk ha
                  have FR := Aside0.mk (Q_FR (hoff 20 (by kernel_rfl)))
                  have hc0_ := FR.out _ _ x0
                  have hc1_ := FR.out _ _ x1
                  refine value_ (w1 := w') (v := .agg #[.string (rd_T93 L 0).f0.f0, .int .i64 (rd_T93 L 0).f0.f1]) (by rfl) rfl ?_ ?_
                  · go_simp
                    (try simp only [i64_w])
                    try rfl
                    all_goals (try ((try simp only [ByteArray.size_append] at *); omega))
                  refine hK.out _ _ ⟨(by rw [ha.out]; exact putSel_upk 0 hb_ rfl rfl rfl), Q_FR, Q_FA, Q_FB, fun h0_ => absurd ((hoff 20 (by kernel_rfl)).symm.trans h0_) (by decide)⟩
                refine steps_cons ?_ ?_
                · rintro b a w' ⟨ha, Q_FR, Q_FA, Q_FB, Q_FC⟩ hb_ hon hoff
                  refine ⟨_, rfl, fun K hK => ?_⟩
                  have e56 : a.tmps[56]? = some (.pointer (some ⟨g, 3, none⟩)) := by rw [ha]; exact (putSel_off rfl).trans rfl
                  replace ha := Aside0.mk ha
                  have FR := Aside0.mk (Q_FR (hoff 20 (by kernel_rfl)))
                  have hc0_ := FR.out _ _ y0
                  have hc1_ := FR.out _ _ y1
                  refine value_ (w1 := w') (v := .agg #[.string (rd_T93 L 1).f0.f0, .int .i64 (rd_T93 L 1).f0.f1]) (by rfl) rfl ?_ ?_
                  · go_simp
                    (try simp only [i64_w])
                    try rfl
                    all_goals (try ((try simp only [ByteArray.size_append] at *); omega))
                  refine hK.out _ _ ⟨(by rw [ha.out]; exact putSel_upk 1 hb_ rfl rfl rfl), Q_FR, Q_FA, Q_FB, fun h0_ => absurd ((hoff 20 (by kernel_rfl)).symm.trans h0_) (by decide)⟩
                refine steps_cons ?_ ?_
                · rintro b a w' ⟨ha, Q_FR, Q_FA, Q_FB, Q_FC⟩ hb_ hon hoff
                  refine ⟨_, rfl, fun K hK => ?_⟩
                  have e60 : a.tmps[60]? = some (.pointer (some ⟨g, 2, none⟩)) := by rw [ha]; exact (putSel_off rfl).trans rfl
                  replace ha := Aside0.mk ha
                  have FR := Aside0.mk (Q_FR (hoff 20 (by kernel_rfl)))
                  have hc0_ := FR.out _ _ x2
                  refine value_ (w1 := w') (v := .bool (rd_T93 L 0).f1) (by rfl) rfl ?_ ?_
                  · go_simp
                    (try simp only [i64_w])
                    try rfl
                    all_goals (try ((try simp only [ByteArray.size_append] at *); omega))
                  refine hK.out _ _ ⟨(by rw [ha.out]; exact putSel_upk 2 hb_ rfl rfl rfl), Q_FR, Q_FA, Q_FB, fun h0_ => absurd ((hoff 20 (by kernel_rfl)).symm.trans h0_) (by decide)⟩
                refine steps_cons ?_ ?_
                · rintro b a w' ⟨ha, Q_FR, Q_FA, Q_FB, Q_FC⟩ hb_ hon hoff
                  refine ⟨_, rfl, fun K hK => ?_⟩
                  have e64 : a.tmps[64]? = some (.pointer (some ⟨g, 5, none⟩)) := by rw [ha]; exact (putSel_off rfl).trans rfl
                  replace ha := Aside0.mk ha
                  have FR := Aside0.mk (Q_FR (hoff 20 (by kernel_rfl)))
                  have hc0_ := FR.out _ _ y2
                  refine value_ (w1 := w') (v := .bool (rd_T93 L 1).f1) (by rfl) rfl ?_ ?_
                  · go_simp
                    (try simp only [i64_w])
                    try rfl
                    all_goals (try ((try simp only [ByteArray.size_append] at *); omega))
                  refine hK.out _ _ ⟨(by rw [ha.out]; exact putSel_upk 3 hb_ rfl rfl rfl), Q_FR, Q_FA, Q_FB, fun h0_ => absurd ((hoff 20 (by kernel_rfl)).symm.trans h0_) (by decide)⟩
                refine steps_cons ?_ ?_
                · rintro b a w' ⟨ha, Q_FR, Q_FA, Q_FB, Q_FC⟩ hb_ hon hoff
                  refine ⟨_, rfl, fun K hK => ?_⟩
                  have e53 : a.tmps[53]? = some (.agg #[.string (rd_T93 L 0).f0.f0, .int .i64 (rd_T93 L 0).f0.f1]) := by rw [ha]; exact putSel_on (e := (3, 53, .agg #[.string (rd_T93 L 0).f0.f0, .int .i64 (rd_T93 L 0).f0.f1])) 0 rfl rfl (hon 3 (by kernel_rfl)) rfl
                  have e57 : a.tmps[57]? = some (.agg #[.string (rd_T93 L 1).f0.f0, .int .i64 (rd_T93 L 1).f0.f1]) := by rw [ha]; exact putSel_on (e := (7, 57, .agg #[.string (rd_T93 L 1).f0.f0, .int .i64 (rd_T93 L 1).f0.f1])) 1 rfl rfl (hon 7 (by kernel_rfl)) rfl
                  have e61 : a.tmps[61]? = some (.bool (rd_T93 L 0).f1) := by rw [ha]; exact putSel_on (e := (11, 61, .bool (rd_T93 L 0).f1)) 2 rfl rfl (hon 11 (by kernel_rfl)) rfl
                  have e65 : a.tmps[65]? = some (.bool (rd_T93 L 1).f1) := by rw [ha]; exact putSel_on (e := (15, 65, .bool (rd_T93 L 1).f1)) 3 rfl rfl (hon 15 (by kernel_rfl)) rfl
                  have e67 : a.tmps[67]? = some (.slice Ac D.length cc) := by rw [ha]; exact (putSel_off rfl).trans rfl
                  replace ha := Aside0.mk ha
                  have FR := Aside0.mk (Q_FR (hoff 20 (by kernel_rfl)))
                  refine value_ (w1 := w') (v := .agg #[.string (rd_T93 L 0).f0.f0, .int .i64 (rd_T93 L 0).f0.f1, .string (rd_T93 L 1).f0.f0, .int .i64 (rd_T93 L 1).f0.f1, .bool (rd_T93 L 0).f1, .bool (rd_T93 L 1).f1, .slice Ac D.length cc]) (by rfl) rfl ?_ ?_
                  · go_simp
                    (try simp only [i64_w])
                    try rfl
                    all_goals (try ((try simp only [ByteArray.size_append] at *); omega))
                  refine hK.out _ _ ⟨(by rw [ha.out]; exact putSel_upk 4 hb_ rfl rfl rfl), Q_FR, Q_FA, Q_FB, fun h0_ => absurd ((hoff 20 (by kernel_rfl)).symm.trans h0_) (by decide)⟩
                refine steps_cons ?_ ?_
                · rintro b a w' ⟨ha, Q_FR, Q_FA, Q_FB, Q_FC⟩ hb_ hon hoff
                  refine ⟨_, rfl, fun K hK => ?_⟩
                  replace ha := Aside0.mk ha
                  have FR := Aside0.mk (Q_FR (hoff 20 (by kernel_rfl)))
                  have FA := Aside0.mk (Q_FA hb_)
                  have hw_ : w'.heap.size = w10.heap.size := by rw [FA.out]
                  refine value_ (w1 := w'.alloc (.cells #[.string ⟨#[]⟩, .int .i64 0, .string ⟨#[]⟩, .int .i64 0, .bool false, .bool false, .slice none 0 0] 26)) (v := .pointer (some ⟨w10.heap.size, 0, none⟩)) (by rfl) rfl ?_ ?_
                  · rw [← hw_]
                    go_simp
                    try rfl
                  refine hK.out _ _ ⟨(by rw [ha.out]; exact putSel_upk 5 hb_ rfl rfl rfl), fun _ => rdOk_alloc FR.out _, fun h0_ => absurd ((up_self b 19).symm.trans h0_) (by decide), fun _ _ => by rw [FA.out], fun h0_ => absurd ((hoff 20 (by kernel_rfl)).symm.trans h0_) (by decide)⟩
                refine steps_cons ?_ ?_
                · rintro b a w' ⟨ha, Q_FR, Q_FA, Q_FB, Q_FC⟩ hb_ hon hoff
                  refine ⟨_, rfl, fun K hK => ?_⟩
                  have e11 : a.tmps[11]? = some (.pointer (some ⟨w10.heap.size, 0, none⟩)) := by rw [ha]; exact putSel_on (e := (19, 11, .pointer (some ⟨w10.heap.size, 0, none⟩))) 5 rfl rfl (hon 19 (by kernel_rfl)) rfl
                  have e68 : a.tmps[68]? = some (.agg #[.string (rd_T93 L 0).f0.f0, .int .i64 (rd_T93 L 0).f0.f1, .string (rd_T93 L 1).f0.f0, .int .i64 (rd_T93 L 1).f0.f1, .bool (rd_T93 L 0).f1, .bool (rd_T93 L 1).f1, .slice Ac D.length cc]) := by rw [ha]; exact putSel_on (e := (18, 68, .agg #[.string (rd_T93 L 0).f0.f0, .int .i64 (rd_T93 L 0).f0.f1, .string (rd_T93 L 1).f0.f0, .int .i64 (rd_T93 L 1).f0.f1, .bool (rd_T93 L 0).f1, .bool (rd_T93 L 1).f1, .slice Ac D.length cc])) 4 rfl rfl (hon 18 (by kernel_rfl)) rfl
                  replace ha := Aside0.mk ha
                  have FR := Aside0.mk (Q_FR hb_)
                  have FB := Aside0.mk (Q_FB (hon 19 (by kernel_rfl)) hb_)
                  obtain ⟨⟨k0, k1, k2, k3, k4, k5, k6⟩, f0, f1, f2, f3, f4, f5, f6⟩ := seven_cell (show w'.heap[w10.heap.size]? = some (.cells #[.string ⟨#[]⟩, .int .i64 0, .string ⟨#[]⟩, .int .i64 0, .bool false, .bool false, .slice none 0 0] 26 (0, 0)) by rw [FB.out]; exact heap_alloc_new w10 _)
                  refine skip_ (w1 := (((((((w').setCell ⟨w10.heap.size, 0, none⟩ (.string (rd_T93 L 0).f0.f0)).setCell ⟨w10.heap.size, 1, none⟩ (.int .i64 (rd_T93 L 0).f0.f1)).setCell ⟨w10.heap.size, 2, none⟩ (.string (rd_T93 L 1).f0.f0)).setCell ⟨w10.heap.size, 3, none⟩ (.int .i64 (rd_T93 L 1).f0.f1)).setCell ⟨w10.heap.size, 4, none⟩ (.bool (rd_T93 L 0).f1)).setCell ⟨w10.heap.size, 5, none⟩ (.bool (rd_T93 L 1).f1)).setCell ⟨w10.heap.size, 6, none⟩ (.slice Ac D.length cc)) (by rfl) rfl ?_ ?_
                  · go_simp
                    try rfl
                  refine hK.out _ _ ⟨(by rw [ha.out]; exact putSel_none (v := undef) rfl), fun h0_ => absurd ((up_self b 20).symm.trans h0_) (by decide), fun h0_ => absurd ((hon 19 (by kernel_rfl)).symm.trans h0_) (by decide), fun _ h1_ => absurd ((up_self b 20).symm.trans h1_) (by decide), fun _ => by rw [FB.out]⟩
                exact steps_nil
              · rintro b a w' hall ⟨ha, Q_FR, Q_FA, Q_FB, Q_FC⟩
                clear FA FR
                have hb3_ := hall 3 (by kernel_rfl)
                have hb7_ := hall 7 (by kernel_rfl)
                have hb11_ := hall 11 (by kernel_rfl)
                have hb15_ := hall 15 (by kernel_rfl)
                have hb18_ := hall 18 (by kernel_rfl)
                have hb19_ := hall 19 (by kernel_rfl)
                have hb20_ := hall 20 (by kernel_rfl)
                subst ha
                simp only [putSel, hb3_, hb7_, hb11_, hb15_, hb18_, hb19_, hb20_, if_true, Act.put, List.setIfInBounds_toArray, List.set_cons_zero, List.set_cons_succ]
                clear Q_FR
                clear Q_FA
                clear Q_FB
                have FC := Aside0.mk (Q_FC hb20_)
                clear Q_FC
                clear hall hb3_ hb7_ hb11_ hb15_ hb18_ hb19_ hb20_
                have hzz2 := HZ2.out
                have hzz9 := HBx9.out.size
                have HB11 := Aside0.mk (show Below w9.heap.size w9 w' by
                  rw [FC.out]
                  exact seven_below ((show Below w9.heap.size w9 w10 by rw [← hw10]; exact below_drew1 (Below.refl _ _)).alloc (by rw [← hw10]; exact Nat.le_refl _) _) (by rw [← hw10]; exact Nat.le_refl _) _ _ _ _ _ _ _)
                have HP11 := Aside0.mk (show w'.heap[w10.heap.size]? = some (.cells #[.string (rd_T93 L 0).f0.f0, .int .i64 (rd_T93 L 0).f0.f1, .string (rd_T93 L 1).f0.f0, .int .i64 (rd_T93 L 1).f0.f1, .bool (rd_T93 L 0).f1, .bool (rd_T93 L 1).f1, .slice Ac D.length cc] 26 (0, 0)) by
                  rw [FC.out]
                  exact seven_set (heap_alloc_new w10 _))
                have HK11 := Aside0.mk ((HB11.out.block w.heap.size (by omega)).trans HK9.out)
                have HQ11 := Aside0.mk (Kd.Q_below HQ9.out HB11.out)
                have HBw11 := Aside0.mk (below_then HB9.out HB9.out.size HB11.out)
                have hz11 : w10.heap.size + 1 ≤ w'.heap.size := by
                  have h1 := (Array.getElem?_eq_some_iff.1 HP11.out).1
                  omega
                have hz12 : w.heap.size + 1 ≤ w'.heap.size := by have := HB11.out.size; omega
                clear FC HB11 HK9 HQ9 HB9 x0 x1 x2 y0 y1 y2 hcut hw10 hHeld
                have HG5 := Aside0.mk (show pgS a0 = if ordB D = true then (7 * k + 7, L, 0) else (0, [], 11) by rw [HD.out]; exact HG4.out)
                clear HG4
                have p6 : w'.cell? ⟨w10.heap.size, 6, none⟩ = some (.slice Ac D.length cc) := blk_cell HP11.out 6
                go_wp2_with (fail)
                have hC11 := (Kd.Q_reads' HQ11.out).2.2
                refine (path_ordered.calls (D.length + 1) Ac cc D (ordB D) _ hC11 hccl.out (ordered_f D (by have := HDl.out; omega) _ (Nat.le_refl _))).mono ?_
                rintro ex w12 ⟨rfl, hb⟩
                have HP12 := Aside0.mk ((hb.block w10.heap.size (by omega)).trans HP11.out)
                have HK12 := Aside0.mk ((hb.block w.heap.size (by omega)).trans HK11.out)
                have HQ12 := Aside0.mk (Kd.Q_below HQ11.out hb)
                have HB12 := Aside0.mk (below_then HBw11.out HBw11.out.size hb)
                clear HP11 HK11 HQ11 HBw11 hb hC11 p6
                obtain ⟨⟨k0, k1, k2, k3, k4, k5, k6⟩, f0, f1, f2, f3, f4, f5, f6⟩ := seven_cell HK12.out
                cases ho : ordB D with
                | false =>
                  obtain ⟨rfl, rfl, rfl, rfl, rfl, rfl, rfl, rfl, rfl⟩ := HE.out 11 (by rw [HG5.out, ho, if_neg (by simp)])
                  clear HE HG5 HR ho
                  go_wp2_with (fail)
                  refine jump_ret ?_
                  refine bodyPost_ret (results_ctt rfl _ _ w.heap.size 26 _ (0, 0) _ rfl (seven_set HK12.out) Tryd.underlying26 rfl (by kernel_rfl)) rfl ?_
                  exact ⟨_, rfl, Kd.Q_nil _ _ _ _ _, seven_below HB12.out (Nat.le_refl _) _ _ _ _ _ _ _⟩
                | true =>
                  have h0 := HR.out
                  rw [HG5.out, ho, if_pos rfl] at h0
                  simp only [Prod.mk.injEq] at h0
                  obtain ⟨rfl, rfl, rfl, rfl, rfl, rfl, h6, h7, rfl⟩ := h0
                  obtain rfl : D = r6 := HD.out.trans h6
                  obtain rfl : r7 = 7 * (k : Int) + 7 := by omega
                  clear HE HG5 HR ho h6 h7
                  obtain ⟨⟨q0, q1, q2, q3, q4, q5, q6⟩, e0, e1, e2, e3, e4, e5, e6⟩ := seven_cell HP12.out
                  clear e0 e1 e2 e3 e4 e5 e6
                  go_wp2_with (fail)
                  refine jump_ret ?_
                  refine bodyPost_ret (results_ctt rfl _ _ w.heap.size 26 _ (0, 0) _ rfl (seven_set HK12.out) Tryd.underlying26 rfl (by kernel_rfl)) rfl ?_
                  exact ⟨_, rfl, Kd.Q_lower (seven_Q HQ12.out (by omega) _ _ _ _ _ _ _) (by omega), seven_below HB12.out (Nat.le_refl _) _ _ _ _ _ _ _⟩
      · obtain ⟨rfl, rfl, rfl, rfl, rfl, rfl, rfl, rfl, rfl⟩ := HE.out 2 (by rw [HG2.out, if_pos he])
        clear HE HG2 HR HSW
        go_wp2_with (fail)
        subst hQ
        refine jump_ret ?_
        refine bodyPost_ret (results_ctt rfl _ _ w.heap.size 26 _ (0, 0) _ rfl (seven_set HK4.out) Tryd.underlying26 rfl (by kernel_rfl)) rfl ?_
        exact ⟨_, rfl, Kd.Q_nil _ _ _ _ _, seven_below HB4.out (Nat.le_refl _) _ _ _ _ _ _ _⟩
  case first =>
    intro hbody
    go_wp2
    go_step3
    rename_i hk_
    rw [← hw2]
    refine hk_ _ _ ?_
    exact hbody _ _ ⟨0, [], _, _, rfl, rfl, rfl, rfl, rfl, rfl, rfl, rfl, by omega, rfl, ⟨rfl⟩, ⟨Kd.R_nil _ _ _ _ _⟩, ⟨Below.refl _ _⟩⟩
end Go.Proofs.YtpmieapgbdbabaaDoor.QAll
end

section
/- Walks, written by a program of this session (wip/pp): a Go function comes to what the Lean function beside it tells. -/
namespace Go.Proofs.YtpmieapgbdbabaaDoor.QAll
open Go.RowKit Go.Proofs.YtpmieapgbdbabaaDoorW.PrintWords Go.Proofs.YtpmieapgbdbabaaDoorW.PrintLast Go.Proofs.YtpmieapgbdbabaaDoorW.PrintMore
attribute [local go_sem] max2_int min2_int max_two min_two max_three min_three max_four min_four
set_option linter.unusedVariables false
set_option linter.unusedSimpArgs false

def path_Path_entries.f (a0_0 : ByteArray) (a0_1 : Int) (a0_2 : ByteArray) (a0_3 : Int) (a0_4 : Bool) (a0_5 : Bool) (l0_6 : List (S93)) : Option ((List (S93))) := (some (([(⟨(⟨a0_0, a0_1⟩ : S23), a0_4⟩ : S93), (⟨(⟨a0_2, a0_3⟩ : S23), a0_5⟩ : S93)] : List (S93)) : List (S93))).bind fun y334 => (if y334.length + l0_6.length < 4398046511104 then (some (y334 ++ l0_6)) else (none))
set_option maxHeartbeats 8000000 in
set_option maxRecDepth 100000 in
theorem path_Path_entries.calls (a0_0 : ByteArray) (a0_1 : Int) (a0_2 : ByteArray) (a0_3 : Int) (a0_4 : Bool) (a0_5 : Bool) (A0_6 : Option Addr) (c0_6 : Nat) (l0_6 : List (S93)) (r : List (S93)) (w : World) (hr0_6 : Kd.C k93 w A0_6 l0_6.length l0_6) (hc0_6 : l0_6.length ≤ c0_6) (h : path_Path_entries.f a0_0 a0_1 a0_2 a0_3 a0_4 a0_5 l0_6 = some r) :
  Calls Tryd.prog 65 #[.agg #[.string a0_0, .int .i64 a0_1, .string a0_2, .int .i64 a0_3, .bool a0_4, .bool a0_5, .slice A0_6 l0_6.length c0_6]] w fun e w' => ∃ v0_ : Value, e = .returned (v0_) ∧ Kd.R k93 93 w' w.heap.size (fun _ => True) v0_ r ∧ Below w.heap.size w w' := by
 have hu26 := Tryd.underlying26
 have hu23 := Tryd.underlying23
 have hu93 := Tryd.underlying93
 have HR0_6 := Aside0.mk hr0_6
 have HC0_6 := Aside0.mk hc0_6
 clear hr0_6 hc0_6
 have HB := Aside0.mk (Below.refl w.heap.size w)
 have H : ((some (([(⟨(⟨a0_0, a0_1⟩ : S23), a0_4⟩ : S93), (⟨(⟨a0_2, a0_3⟩ : S23), a0_5⟩ : S93)] : List (S93)) : List (S93))).bind fun y334 => (if y334.length + l0_6.length < 4398046511104 then (some (y334 ++ l0_6)) else (none))) = some r := h
 clear h
 obtain ⟨y334, hy334⟩ : ∃ y_ : List (S93), y_ = (([(⟨(⟨a0_0, a0_1⟩ : S23), a0_4⟩ : S93), (⟨(⟨a0_2, a0_3⟩ : S23), a0_5⟩ : S93)] : List (S93))) := ⟨_, rfl⟩
 replace H : (if y334.length + l0_6.length < 4398046511104 then (some (y334 ++ l0_6)) else (none)) = some r := by first | (rw [hy334]; with_reducible exact H) | (have H2_ := (Option.bind_some _ _).symm.trans H; rw [hy334]; with_reducible exact H2_) | (have H2_ := (Option.bind_some _ _).symm.trans H; with_reducible exact H2_) | with_reducible exact H | (rw [hy334]; exact H) | exact H
 have Ny334 := Aside0.mk hy334
 clear hy334
 by_cases c2 : y334.length + l0_6.length < 4398046511104
 ·rw [if_pos c2] at H
  have LMc2 := Aside0.mk c2
  clear c2
  obtain ⟨y337, hy337⟩ : ∃ y_ : List (S93), y_ = (y334 ++ l0_6) := ⟨_, rfl⟩
  replace H : (some y337) = some r := by first | (rw [hy337]; with_reducible exact H) | (have H2_ := (Option.bind_some _ _).symm.trans H; rw [hy337]; with_reducible exact H2_) | (have H2_ := (Option.bind_some _ _).symm.trans H; with_reducible exact H2_) | with_reducible exact H | (rw [hy337]; exact H) | exact H
  have Ny337 := Aside0.mk hy337
  clear hy337
  obtain rfl := Option.some.inj H
  go_enter Tryd.func65, Tryd.ntmps65
  go_wp2_with (first | ((with_reducible refine gate_dst (N := 1) rfl ?_); refine box_event ?hg (N := 1) ?hd (cs := #[.string a0_0, .int .i64 a0_1, .string a0_2, .int .i64 a0_3, .bool a0_4, .bool a0_5, .slice A0_6 l0_6.length c0_6]) (t := 26) ?hr ?_; (case hd => rfl); (case hg => rfl); (case hr => first | (go_simp; done) | (go_simp; rfl)); intro gb333 hg w3 hbox hb; have n0_ := Aside0.mk (below_step (by repeat (first | (with_reducible first | exact HB.out | apply below_alloc | apply pw_below_drewN | apply below_drew1) | exact HB.out)) hb); have n1_ := Aside0.mk (hbox); have n2_ := Aside0.mk ((by rw [hg]; exact (below_size (by repeat (first | (with_reducible first | exact HB.out | apply below_alloc | apply pw_below_drewN | apply below_drew1) | exact HB.out))) : w.heap.size ≤ gb333)); have n3_ := Aside0.mk ((by rw [hg]; exact (below_size (by repeat (first | (with_reducible first | exact HB.out | apply below_alloc | apply pw_below_drewN | apply below_drew1) | exact HB.out))) : w.heap.size ≤ gb333)); clear HB; have HB := n0_; have BK333 := n1_; have GW333 := n2_; have GE333 := n3_; clear n0_ n1_ n2_ n3_; clear hb hbox hg; have hcz4_0 : w3.cell? ⟨gb333, 0, none⟩ = some (.string a0_0) := (blk_cell BK333.out 0).trans rfl; have hcz4_1 : w3.cell? ⟨gb333, 1, none⟩ = some (.int .i64 a0_1) := (blk_cell BK333.out 1).trans rfl; have hcz4_2 : w3.cell? ⟨gb333, 2, none⟩ = some (.string a0_2) := (blk_cell BK333.out 2).trans rfl; have hcz4_3 : w3.cell? ⟨gb333, 3, none⟩ = some (.int .i64 a0_3) := (blk_cell BK333.out 3).trans rfl; have hcz4_4 : w3.cell? ⟨gb333, 4, none⟩ = some (.bool a0_4) := (blk_cell BK333.out 4).trans rfl; have hcz4_5 : w3.cell? ⟨gb333, 5, none⟩ = some (.bool a0_5) := (blk_cell BK333.out 5).trans rfl; have hcz4_6 : w3.cell? ⟨gb333, 6, none⟩ = some (.slice A0_6 l0_6.length c0_6) := (blk_cell BK333.out 6).trans rfl; have hfz4_0 := blk_frozen BK333.out 0; have hfz4_1 := blk_frozen BK333.out 1; have hfz4_2 := blk_frozen BK333.out 2; have hfz4_3 := blk_frozen BK333.out 3; have hfz4_4 := blk_frozen BK333.out 4; have hfz4_5 := blk_frozen BK333.out 5; have hfz4_6 := blk_frozen BK333.out 6) | ((with_reducible refine gate_dst (N := 13) rfl ?_); refine Kd.R_lit k93 _ 93 ?hg (N := 13) ?hd (xs := ([(⟨(⟨a0_0, a0_1⟩ : S23), a0_4⟩ : S93), (⟨(⟨a0_2, a0_3⟩ : S23), a0_5⟩ : S93)] : List (S93))) (inner := [.string a0_0, .int .i64 a0_1, .bool a0_4, .string a0_2, .int .i64 a0_3, .bool a0_5]) (ok := fun _ => True) (okp := fun _ => True) ?hr ?hp (fun _ hk => hk) trivial (Below.refl _ _) (Nat.le_refl _) (by simp) ?_; (case hd => rfl); (case hg => rfl); (case hr => first | (go_simp; done) | (go_simp; rfl)); (case hp => exact (Reps.c3 (show Kd.M k93 _ _ _ (⟨(⟨a0_0, a0_1⟩ : S23), a0_4⟩ : S93) [.string a0_0, .int .i64 a0_1, .bool a0_4] from (k93_mkM _ _ _ (⟨(⟨a0_0, a0_1⟩ : S23), a0_4⟩ : S93) )) (Reps.c3 (show Kd.M k93 _ _ _ (⟨(⟨a0_2, a0_3⟩ : S23), a0_5⟩ : S93) [.string a0_2, .int .i64 a0_3, .bool a0_5] from (k93_mkM _ _ _ (⟨(⟨a0_2, a0_3⟩ : S23), a0_5⟩ : S93) )) (Reps.none _ _)))); intro v335 w5 ho6 hb hg_ hnew_; clear hg_ hnew_; (first | rw [← Ny334.out] at ho6 | (simp only [Int.reduceToNat] at ho6; rw [← Ny334.out] at ho6)); have n0_ := Aside0.mk (Kd.R_lower ho6 (below_size (by repeat (first | (with_reducible first | exact HB.out | apply below_alloc | apply pw_below_drewN | apply below_drew1 | refine below_set ?_ GE333.out) | exact HB.out)))); have n1_ := Aside0.mk (blk_below (g := gb333) (o := .cells #[.string a0_0, .int .i64 a0_1, .string a0_2, .int .i64 a0_3, .bool a0_4, .bool a0_5, .slice A0_6 l0_6.length c0_6] 26 (0, 0)) (by (with_reducible repeat (first | refine blk_drewN ?_ _ | refine blk_drew ?_ | refine blk_alloc ?_ _)); exact BK333.out) hb); have n2_ := Aside0.mk (below_step (by repeat (first | (with_reducible first | exact HB.out | apply below_alloc | apply pw_below_drewN | apply below_drew1 | refine below_set ?_ GE333.out) | exact HB.out)) hb); clear BK333; clear HB; have HO336 := n0_; have BK333 := n1_; have HB := n2_; clear n0_ n1_ n2_; clear hb ho6; have hcz7_0 : w5.cell? ⟨gb333, 0, none⟩ = some (.string a0_0) := (blk_cell BK333.out 0).trans rfl; have hcz7_1 : w5.cell? ⟨gb333, 1, none⟩ = some (.int .i64 a0_1) := (blk_cell BK333.out 1).trans rfl; have hcz7_2 : w5.cell? ⟨gb333, 2, none⟩ = some (.string a0_2) := (blk_cell BK333.out 2).trans rfl; have hcz7_3 : w5.cell? ⟨gb333, 3, none⟩ = some (.int .i64 a0_3) := (blk_cell BK333.out 3).trans rfl; have hcz7_4 : w5.cell? ⟨gb333, 4, none⟩ = some (.bool a0_4) := (blk_cell BK333.out 4).trans rfl; have hcz7_5 : w5.cell? ⟨gb333, 5, none⟩ = some (.bool a0_5) := (blk_cell BK333.out 5).trans rfl; have hcz7_6 : w5.cell? ⟨gb333, 6, none⟩ = some (.slice A0_6 l0_6.length c0_6) := (blk_cell BK333.out 6).trans rfl; have hfz7_0 := blk_frozen BK333.out 0; have hfz7_1 := blk_frozen BK333.out 1; have hfz7_2 := blk_frozen BK333.out 2; have hfz7_3 := blk_frozen BK333.out 3; have hfz7_4 := blk_frozen BK333.out 4; have hfz7_5 := blk_frozen BK333.out 5; have hfz7_6 := blk_frozen BK333.out 6) | ((with_reducible refine gate_builtin (b := .append) (xs := #[.tmp 13, .tmp 15]) rfl ?_); at_builtin; refine Kd.R_append_rows k93 (w0 := w) w.heap.size rfl (.tmp 13) (.tmp 15) 24 93 (.agg #[(.string ⟨#[]⟩), (.int .i64 0), (.bool false)]) 32 rfl Tryd.underlying24 info93 rfl (by decide) (by omega) v335 y334 l0_6 _ _ _ (fun _ => True) (fun _ => False) rfl rfl ?aO ?aR (fun _ _ h => h) (fun _ h => h.elim) ?aF ?aB ?aS ?aL ?_; (case aR => repeat (first | exact (Kd.C_below HR0_6.out HB.out) | (with_reducible refine Kd.C_alloc ?_ _) | (with_reducible refine Kd.C_drewN ?_ _) | (with_reducible refine Kd.C_drew ?_))); (case aB => exact (by repeat (first | (with_reducible first | exact HB.out | apply below_alloc | apply pw_below_drewN | apply below_drew1 | refine below_set ?_ GE333.out) | exact HB.out))); (case aF => exact (fun _ _ => trivial)); (case aO => exact (by (with_reducible repeat (first | apply Kd.R_alloc | apply Kd.R_drewN | apply Kd.R_drew)); exact HO336.out)); (case aS => exact (below_size (by repeat (first | (with_reducible first | exact HB.out | apply below_alloc | apply pw_below_drewN | apply below_drew1 | refine below_set ?_ GE333.out) | exact HB.out)))); (case aL => have := LMc2.out; omega); intro v338 w8 ho hb hg hat; rw [← Ny337.out] at ho; have n0_ := Aside0.mk (blk_grown (g := gb333) (o := .cells #[.string a0_0, .int .i64 a0_1, .string a0_2, .int .i64 a0_3, .bool a0_4, .bool a0_5, .slice A0_6 l0_6.length c0_6] 26 (0, 0)) (by (with_reducible repeat (first | refine blk_drewN ?_ _ | refine blk_drew ?_ | refine blk_alloc ?_ _)); exact BK333.out) hg (Kd.R_ne HO336.out BK333.out (by decide))); have n1_ := Aside0.mk (hb); have n2_ := Aside0.mk (ho); clear BK333; clear HB; clear HO336; have BK333 := n0_; have HB := n1_; have HO339 := n2_; clear n0_ n1_ n2_; clear ho hb hg hat))
  go_ret
  exact ⟨_, by first | rfl | (simp [errW_none, errW_some] <;> rfl) | (simp [*, errW_none, errW_some] <;> rfl), by (with_reducible repeat (first | apply Kd.R_alloc | apply Kd.R_drewN | apply Kd.R_drew)); exact HO339.out, by repeat (first | (with_reducible first | exact HB.out | apply below_alloc | apply pw_below_drewN | apply below_drew1 | refine below_set ?_ GE333.out) | exact HB.out)⟩
 ·rw [if_neg c2] at H
  exact absurd H (by simp)

end Go.Proofs.YtpmieapgbdbabaaDoor.QAll
end

section
/- path.Put, walked by hand: the bytes of a right path, or none and ErrPath, for every path. -/
set_option linter.unusedVariables false
set_option linter.unusedSimpArgs false
namespace Go.Proofs.YtpmieapgbdbabaaDoor.QAll
open Go.RowKit Go.Shelf Go.Proofs.YtpmieapgbdbabaaDoorW.PrintWords Go.Proofs.YtpmieapgbdbabaaDoorW.PrintLast Go.Proofs.YtpmieapgbdbabaaDoorW.PrintMore

/-- The bytes of an entry. -/
def putD (d : S93) (last : Bool) : ByteArray := strOfNums (putL d.f0.f0 d.f0.f1 d.f1 last)
def pputL : List S93 → List UInt8
  | [] => []
  | d :: r => (putD d r.isEmpty).data.toList ++ pputL r
def entS (a0 : ByteArray) (n0 : Int) (a1 : ByteArray) (n1 : Int) (m0 m1 : Bool) (l : List S93) : List S93 := (⟨⟨a0, n0⟩, m0⟩ : S93) :: (⟨⟨a1, n1⟩, m1⟩ : S93) :: l
def pputS (a0 : ByteArray) (n0 : Int) (a1 : ByteArray) (n1 : Int) (m0 m1 : Bool) (l : List S93) : ByteArray := ⟨(pputL (entS a0 n0 a1 n1 m0 m1 l)).toArray⟩
def path_Put.f (a0_0 : ByteArray) (a0_1 : Int) (a0_2 : ByteArray) (a0_3 : Int) (a0_4 : Bool) (a0_5 : Bool) (l0_6 : List S93) : Option (ByteArray × Int) :=
  if sizesOk a0_0 a0_2 l0_6 = true then some (if pathB a0_0 a0_1 a0_2 a0_3 l0_6 = true then (pputS a0_0 a0_1 a0_2 a0_3 a0_4 a0_5 l0_6, 0) else (⟨#[]⟩, 11)) else none
theorem putD_size (d : S93) (b : Bool) : (putD d b).size = 7 := rfl
theorem putD_len (d : S93) (b : Bool) : (putD d b).data.toList.length = 7 := rfl
theorem IsBuilder_below {T e : TypeId} {B b : Nat} {bs : List Value} {w w' : World} (h : Lib.IsBuilder T e B b bs w) (hb : Below w.heap.size w w') : Lib.IsBuilder T e B b bs w' :=
  h.imp (fun z => BuilderAt_below z hb) (fun z => BuilderAt_below z hb)
theorem R_write {w w' : World} {base b : Nat} {v : Value} {l : List S93} (h : Kd.R k93 93 w base (fun _ => True) v l) (hb : b < base)
    (hk : ∀ (i : Nat) (t : TypeId) (cs : Array Value), i ≠ b → t ≠ 5 → w.heap[i]? = some (.cells cs t (0, 0)) → w'.heap[i]? = some (.cells cs t (0, 0))) : Kd.R k93 93 w' base (fun _ => True) v l :=
  Kd.R_mono (Kd.R_move (Kd.R_bound h) (fun k hk_ => by
    obtain ⟨_, h1, h2, q, hq, cs, hc⟩ := hk_
    have hq' : q = 93 := by simpa [k93, k23, Kd.iso, Kd.pair, Kd.E, Kd.string, Kd.int, Kd.bool, Kd.scalar] using hq
    subst hq'
    rw [hk k 93 cs (by omega) (by decide) hc, hc])) (fun _ _ => trivial)
set_option maxHeartbeats 2000000 in
set_option maxRecDepth 100000 in
theorem path_Put.calls (a0_0 : ByteArray) (a0_1 : Int) (a0_2 : ByteArray) (a0_3 : Int) (a0_4 : Bool) (a0_5 : Bool) (A0_6 : Option Addr) (c0_6 : Nat) (l0_6 : List (S93)) (r1 : ByteArray) (r2 : Int) (w : World) (hr0_6 : Kd.C k93 w A0_6 l0_6.length l0_6) (hc0_6 : l0_6.length ≤ c0_6) (h : path_Put.f a0_0 a0_1 a0_2 a0_3 a0_4 a0_5 l0_6 = some (r1, r2)) :
    Calls Tryd.prog 32 #[.agg #[.string a0_0, .int .i64 a0_1, .string a0_2, .int .i64 a0_3, .bool a0_4, .bool a0_5, .slice A0_6 l0_6.length c0_6]] w fun e w' => e = .returned (.tuple #[.string r1, .int .i64 r2]) ∧ Below w.heap.size w w' := by
  unfold path_Put.f at h
  split at h
  case isFalse => cases h
  rename_i hs
  have HR_ := Aside0.mk (Option.some.inj h)
  have HR := Aside0.mk hr0_6
  have HSZ := Aside0.mk hs
  clear hr0_6 h hs
  have hu26 := Tryd.underlying26
  have hu23 := Tryd.underlying23
  have hu93 := Tryd.underlying93
  go_enter Tryd.func32, Tryd.ntmps32
  go_wp2_with (fail)
  refine (path_Right.calls a0_0 a0_1 a0_2 a0_3 a0_4 a0_5 A0_6 c0_6 l0_6 (pathB a0_0 a0_1 a0_2 a0_3 l0_6) _ (Kd.C_below HR.out ((Below.refl _ _).alloc (Nat.le_refl _) _)) hc0_6 (by unfold path_Right.f; rw [if_pos HSZ.out])).mono ?_
  rintro e w1 ⟨rfl, hb⟩
  have hz := hb.size
  simp only [World.size_alloc] at hz
  have hblk := (hb.block w.heap.size (by simp)).trans (heap_alloc_new w _)
  have HB1 := Aside0.mk (below_then ((Below.refl w.heap.size w).alloc (Nat.le_refl _) _) (by simp) hb)
  have HK1 := Aside0.mk hblk
  clear hb hblk
  cases hp : pathB a0_0 a0_1 a0_2 a0_3 l0_6 with
  | false =>
    have hr := HR_.out
    rw [hp, if_neg (by simp)] at hr
    simp only [Prod.mk.injEq] at hr
    obtain ⟨rfl, rfl⟩ := hr
    clear HR_
    go_wp2_with (fail)
    go_ret2
    exact ⟨rfl, HB1.out⟩
  | true =>
    have hr := HR_.out
    rw [hp, if_pos rfl] at hr
    simp only [Prod.mk.injEq] at hr
    obtain ⟨rfl, rfl⟩ := hr
    clear HR_
    have hp' := hp
    unfold pathB at hp'
    simp only [Bool.and_eq_true] at hp'
    obtain ⟨E, hE⟩ : ∃ E, E = entS a0_0 a0_1 a0_2 a0_3 a0_4 a0_5 l0_6 := ⟨_, rfl⟩
    have HAL := Aside0.mk (show ∀ d ∈ E, rightD d = true by
      rw [hE]
      intro d hd
      rcases List.mem_cons.1 hd with rfl | hd
      · exact hp'.1
      · rcases List.mem_cons.1 hd with rfl | hd
        · exact hp'.2.1
        · exact List.all_eq_true.1 hp'.2.2.1 d hd)
    have HEl := Aside0.mk (show E.length ≤ 1000002 by
      rw [hE]
      have := HSZ.out
      unfold sizesOk at this
      simp at this
      show l0_6.length + 2 ≤ _
      omega)
    have HEq := Aside0.mk (show pputS a0_0 a0_1 a0_2 a0_3 a0_4 a0_5 l0_6 = ⟨(pputL E).toArray⟩ by rw [hE]; rfl)
    have HEf := Aside0.mk (show path_Path_entries.f a0_0 a0_1 a0_2 a0_3 a0_4 a0_5 l0_6 = some E by
      unfold path_Path_entries.f
      rw [Option.bind_some, if_pos, hE]
      · rfl
      · have := HEl.out
        rw [hE] at this
        have h2 : l0_6.length + 2 ≤ 1000002 := this
        show 2 + l0_6.length < _
        omega)
    clear hp' hp hE
    go_upto_region 4 with fail
    have HBd := Aside0.mk (Lib.fresh_isBuilder 106 5 w1)
    have HK := Aside0.mk ((Below.heap_alloc w1 (.cells #[.pointer none, .slice none 0 0] 106) w.heap.size (by omega)).trans HK1.out)
    have HB := Aside0.mk (HB1.out.alloc HB1.out.size (.cells #[.pointer none, .slice none 0 0] 106))
    have HZ := Aside0.mk (show w1.heap.size + 1 ≤ (w1.alloc (.cells #[.pointer none, .slice none 0 0] 106)).heap.size by simp)
    have HG := Aside0.mk (show w.heap.size + 1 ≤ w1.heap.size from hz)
    clear HK1 HB1
    generalize w1.alloc (.cells #[.pointer none, .slice none 0 0] 106) = w3 at HBd HK HB HZ ⊢
    have hz3 : w.heap.size + 2 ≤ w3.heap.size := by have := HZ.out; omega
    obtain ⟨⟨x0, x1, x2, x3, x4, x5, x6⟩, _⟩ : (w3.cell? ⟨w.heap.size, 0, none⟩ = some (.string a0_0) ∧ w3.cell? ⟨w.heap.size, 1, none⟩ = some (.int .i64 a0_1) ∧ w3.cell? ⟨w.heap.size, 2, none⟩ = some (.string a0_2) ∧ w3.cell? ⟨w.heap.size, 3, none⟩ = some (.int .i64 a0_3) ∧ w3.cell? ⟨w.heap.size, 4, none⟩ = some (.bool a0_4) ∧ w3.cell? ⟨w.heap.size, 5, none⟩ = some (.bool a0_5) ∧ w3.cell? ⟨w.heap.size, 6, none⟩ = some (.slice A0_6 l0_6.length c0_6)) ∧ True :=
      ⟨⟨blk_cell HK.out 0, blk_cell HK.out 1, blk_cell HK.out 2, blk_cell HK.out 3, blk_cell HK.out 4, blk_cell HK.out 5, blk_cell HK.out 6⟩, trivial⟩
    go_wp2_with (fail)
    refine (path_Path_entries.calls a0_0 a0_1 a0_2 a0_3 a0_4 a0_5 A0_6 c0_6 l0_6 E _ (Kd.C_below HR.out (below_two HB.out (Nat.le_refl _) (Below.refl _ _))) hc0_6 HEf.out).mono ?_
    rintro e w4 ⟨v4, rfl, ho, hb⟩
    have HBd4 := Aside0.mk (IsBuilder_below HBd.out hb)
    have HB4 := Aside0.mk (below_then HB.out HB.out.size hb)
    have HO4 := Aside0.mk ho
    have HZ4 := Aside0.mk (Nat.le_trans (Nat.le_of_succ_le HZ.out) hb.size)
    have HZ3 := Aside0.mk (show w1.heap.size < w3.heap.size from HZ.out)
    have HZ34 := Aside0.mk hb.size
    obtain ⟨A5, c5, rfl, hle5, hC5⟩ := Kd.R_reads ho
    clear hb ho hC5 HBd HB HZ HK x0 x1 x2 x3 x4 x5 x6 hz3
    go_wp2_with (fail)
    go_loopw [6, 7, 8, 9, 17] (fun v6 v7 v8 v9 v17 wr => ∃ (k : Nat) (X : List UInt8), k ≤ E.length ∧ v17 = .int .i64 k ∧ Aside0 (X ++ pputL (E.drop k) = pputL E) ∧ Aside0 (X.length ≤ 7 * k) ∧
        Aside0 (Lib.IsBuilder 106 5 w1.heap.size w1.heap.size (Lib.byteCells X) wr) ∧ Aside0 (Kd.R k93 93 wr w3.heap.size (fun _ => True) (.slice A5 E.length c5) E) ∧ Aside0 (Below w.heap.size w wr) ∧ Aside0 (w3.heap.size ≤ wr.heap.size))
        (fun v6 v7 v8 v9 v17 _ => E.length - (intOf v17).toNat)
    case atStart =>
      exact ⟨0, [], Nat.zero_le _, rfl, ⟨by rw [List.drop_zero]; rfl⟩, ⟨Nat.le_refl _⟩, HBd4, HO4, HB4, HZ34⟩
    case round =>
      clear HBd4 HO4 HB4 HZ4 HZ34
      obtain ⟨k, X, hk, rfl, HT, HXk, HBd, HO, HB, HZ⟩ := hrel
      by_cases hlt : k < E.length
      · obtain ⟨ad, hA, y0, y1, y2⟩ := at_T93 (Kd.R_reads' HO.out).2.2 k (by omega) (by omega)
        subst hA
        simp only [Int.toNat_natCast] at y0 y1 y2
        have HD := Aside0.mk (show rightD (rd_T93 E k) = true from HAL.out _ (by unfold rd_T93; rw [Int.toNat_natCast, List.getD_eq_getElem?_getD, List.getElem?_eq_getElem hlt]; exact List.getElem_mem hlt))
        have HL := HEl.out
        obtain ⟨lst, hlst⟩ : ∃ b : Bool, b = (E.drop (k + 1)).isEmpty := ⟨_, rfl⟩
        have hcmp : ((k : Int) == (E.length : Int) - 1) = lst := by
          rw [hlst]
          by_cases h1 : k + 1 = E.length
          · rw [List.drop_eq_nil_of_le (by omega), beq_iff_eq.2 (by omega)]; rfl
          · rw [drop_T93 E (k + 1) (by omega), beq_eq_false_iff_ne.2 (by omega)]; rfl
        have HCP := Aside0.mk (show call_Put.f (rd_T93 E k).f0.f0 (rd_T93 E k).f0.f1 (rd_T93 E k).f1 lst = some (putD (rd_T93 E k) lst, 0) by
          have hr := HD.out
          unfold rightD at hr
          have hsz : (rd_T93 E k).f0.f0.size ≤ 6 := by
            unfold rightB at hr
            have hl : 1 ≤ (rd_T93 E k).f0.f0.size ∧ (rd_T93 E k).f0.f0.size ≤ 6 ∧ 0 ≤ (rd_T93 E k).f0.f1 ∧ (rd_T93 E k).f0.f1 ≤ 15 := by simpa using (by simpa using hr : _ ∧ _).2
            exact hl.2.1
          unfold call_Put.f
          rw [if_pos (by omega), if_pos hr]
          rfl)
        have HT2 := Aside0.mk (show (X ++ (putD (rd_T93 E k) lst).data.toList) ++ pputL (E.drop (k + 1)) = pputL E by
          rw [← HT.out, drop_T93 E k hlt, hlst]
          conv => rhs; unfold pputL
          simp)
        clear hlst HT
        have HZ3' := HZ3.out
        go_wp2_with (fail)
        refine (call_Put.calls (rd_T93 E k).f0.f0 (rd_T93 E k).f0.f1 (rd_T93 E k).f1 lst _ _ _ HCP.out).mono ?_
        rintro e w5 ⟨rfl, hb⟩
        have hbA : Below wr.heap.size wr w5 := below_then ((Below.refl _ _).alloc (Nat.le_refl _) _) (by simp) hb
        have HBd5 := Aside0.mk (IsBuilder_below HBd.out hbA)
        have HO5 := Aside0.mk (Kd.R_below HO.out hbA)
        have HB5 := Aside0.mk (below_then HB.out HB.out.size hbA)
        have HZ5 := Aside0.mk (Nat.le_trans HZ.out hbA.size)
        clear HBd HO HB HZ hb hbA y0 y1 y2 hcmp HCP
        go_wp2_with (fail)
        refine (writeString w1.heap.size w1.heap.size (Lib.byteCells X) _ _ HBd5.out (by have := HXk.out; rw [Lib.byteCells_length, putD_size]; omega) (by have := HZ5.out; omega)).mono ?_
        rintro e w6 ⟨rfl, hbd, hb, hkp⟩
        have hX6 : Lib.byteCells X ++ Lib.strCells (putD (rd_T93 E k) lst) = Lib.byteCells (X ++ (putD (rd_T93 E k) lst).data.toList) := by rw [Lib.strCells_eq]; simp [Lib.byteCells]
        rw [hX6] at hbd
        go_wp2_with (fail)
        have hwr : wrap64 ((k : Int) + 1) = ((k + 1 : Nat) : Int) := by unfold wrap64; omega
        try rw [hwr]
        exact ⟨⟨k + 1, X ++ (putD (rd_T93 E k) lst).data.toList, by omega, by first | rfl | (congr 1), HT2, ⟨by rw [List.length_append, putD_len]; have := HXk.out; omega⟩, ⟨Or.inr hbd⟩, ⟨R_write HO5.out HZ3' hkp⟩, ⟨below_two HB5.out (by have := HG.out; omega) hb⟩, ⟨Nat.le_trans HZ5.out hb.size⟩⟩, by simp only [intOf]; omega⟩
      · obtain rfl : k = E.length := by omega
        go_wp2_with (fail)
        have HXe := Aside0.mk (show pputL E = X by rw [← HT.out, List.drop_length]; simp [pputL])
        refine (Tryd.Builder_String_any w1.heap.size w1.heap.size X _ HBd.out (by have := HZ.out; have := HZ3.out; omega)).mono ?_
        rintro e w9 ⟨rfl, hb⟩
        go_wp2_with (fail)
        go_ret2
        exact ⟨by rw [HEq.out, HXe.out]; rfl, below_two HB.out (by have := HG.out; omega) hb⟩
end Go.Proofs.YtpmieapgbdbabaaDoor.QAll
end

section
/- Walks, written by a program of this session (wip/pp): a Go function comes to what the Lean function beside it tells. -/
namespace Go.Proofs.YtpmieapgbdbabaaDoor.QAll
open Go.RowKit Go.Proofs.YtpmieapgbdbabaaDoorW.PrintWords Go.Proofs.YtpmieapgbdbabaaDoorW.PrintLast Go.Proofs.YtpmieapgbdbabaaDoorW.PrintMore
attribute [local go_sem] max2_int min2_int max_two min_two max_three min_three max_four min_four
set_option linter.unusedVariables false
set_option linter.unusedSimpArgs false

def squelchref04_Digits.f (a0 : Int) : Option (ByteArray) := if a0 < 10 then (if 0 ≤ a0 then (if a0 ≤ (wrap64 (a0 + 1)) then (if (wrap64 (a0 + 1)) ≤ 10 then (some ((⟨#[48, 49, 50, 51, 52, 53, 54, 55, 56, 57]⟩ : ByteArray).extract (a0 : Int).toNat ((wrap64 (a0 + 1)) : Int).toNat)) else (none)) else (none)) else (none)) else (if 0 ≤ (wrap64 (Int.tdiv a0 10)) then (if (wrap64 (Int.tdiv a0 10)) ≤ (wrap64 ((wrap64 (Int.tdiv a0 10)) + 1)) then (if (wrap64 ((wrap64 (Int.tdiv a0 10)) + 1)) ≤ 10 then (if 0 ≤ (Int.tmod a0 10) then (if (Int.tmod a0 10) ≤ (wrap64 ((Int.tmod a0 10) + 1)) then (if (wrap64 ((Int.tmod a0 10) + 1)) ≤ 10 then (if ((⟨#[48, 49, 50, 51, 52, 53, 54, 55, 56, 57]⟩ : ByteArray).extract ((wrap64 (Int.tdiv a0 10)) : Int).toNat ((wrap64 ((wrap64 (Int.tdiv a0 10)) + 1)) : Int).toNat).size + ((⟨#[48, 49, 50, 51, 52, 53, 54, 55, 56, 57]⟩ : ByteArray).extract ((Int.tmod a0 10) : Int).toNat ((wrap64 ((Int.tmod a0 10) + 1)) : Int).toNat).size ≤ 9223372036854775807 then (some (((⟨#[48, 49, 50, 51, 52, 53, 54, 55, 56, 57]⟩ : ByteArray).extract ((wrap64 (Int.tdiv a0 10)) : Int).toNat ((wrap64 ((wrap64 (Int.tdiv a0 10)) + 1)) : Int).toNat) ++ ((⟨#[48, 49, 50, 51, 52, 53, 54, 55, 56, 57]⟩ : ByteArray).extract ((Int.tmod a0 10) : Int).toNat ((wrap64 ((Int.tmod a0 10) + 1)) : Int).toNat))) else (none)) else (none)) else (none)) else (none)) else (none)) else (none)) else (none))
set_option maxHeartbeats 8000000 in
set_option maxRecDepth 100000 in
theorem squelchref04_Digits.calls (a0 : Int) (r : ByteArray) (w : World) (h : squelchref04_Digits.f a0 = some r) :
  Calls Tryd.prog 73 #[.int .i64 a0] w fun e w' => e = .returned (.string r) ∧ Drawn0 w w' := by
 have H : (if a0 < 10 then (if 0 ≤ a0 then (if a0 ≤ (wrap64 (a0 + 1)) then (if (wrap64 (a0 + 1)) ≤ 10 then (some ((⟨#[48, 49, 50, 51, 52, 53, 54, 55, 56, 57]⟩ : ByteArray).extract (a0 : Int).toNat ((wrap64 (a0 + 1)) : Int).toNat)) else (none)) else (none)) else (none)) else (if 0 ≤ (wrap64 (Int.tdiv a0 10)) then (if (wrap64 (Int.tdiv a0 10)) ≤ (wrap64 ((wrap64 (Int.tdiv a0 10)) + 1)) then (if (wrap64 ((wrap64 (Int.tdiv a0 10)) + 1)) ≤ 10 then (if 0 ≤ (Int.tmod a0 10) then (if (Int.tmod a0 10) ≤ (wrap64 ((Int.tmod a0 10) + 1)) then (if (wrap64 ((Int.tmod a0 10) + 1)) ≤ 10 then (if ((⟨#[48, 49, 50, 51, 52, 53, 54, 55, 56, 57]⟩ : ByteArray).extract ((wrap64 (Int.tdiv a0 10)) : Int).toNat ((wrap64 ((wrap64 (Int.tdiv a0 10)) + 1)) : Int).toNat).size + ((⟨#[48, 49, 50, 51, 52, 53, 54, 55, 56, 57]⟩ : ByteArray).extract ((Int.tmod a0 10) : Int).toNat ((wrap64 ((Int.tmod a0 10) + 1)) : Int).toNat).size ≤ 9223372036854775807 then (some (((⟨#[48, 49, 50, 51, 52, 53, 54, 55, 56, 57]⟩ : ByteArray).extract ((wrap64 (Int.tdiv a0 10)) : Int).toNat ((wrap64 ((wrap64 (Int.tdiv a0 10)) + 1)) : Int).toNat) ++ ((⟨#[48, 49, 50, 51, 52, 53, 54, 55, 56, 57]⟩ : ByteArray).extract ((Int.tmod a0 10) : Int).toNat ((wrap64 ((Int.tmod a0 10) + 1)) : Int).toNat))) else (none)) else (none)) else (none)) else (none)) else (none)) else (none)) else (none))) = some r := h
 clear h
 by_cases c2 : a0 < 10
 ·rw [if_pos c2] at H
  have c2b0 : decide (a0 < 10) = true := decide_eq_true c2
  clear c2
  by_cases c3 : 0 ≤ a0
  ·rw [if_pos c3] at H
   have c3b0 := eq_true c3
   have c3b1 : decide (0 ≤ a0) = true := decide_eq_true c3
   clear c3
   by_cases c4 : a0 ≤ (wrap64 (a0 + 1))
   ·rw [if_pos c4] at H
    have c4b0 := eq_true c4
    have c4b1 : decide (a0 ≤ (wrap64 (a0 + 1))) = true := decide_eq_true c4
    by_cases c5 : (wrap64 (a0 + 1)) ≤ 10
    ·rw [if_pos c5] at H
     have c5b0 := eq_true c5
     have c5b1 : decide ((wrap64 (a0 + 1)) ≤ 10) = true := decide_eq_true c5
     obtain rfl := Option.some.inj H
     go_enter Tryd.func73, Tryd.ntmps73
     go_wp2
     repeat (go_quiet (fail); try go_wp2)
     go_ret
     exact ⟨by first | rfl | (simp; done) | (simp [*]; done) | (simp; exact (fun l : List UInt8 => (by cases l <;> rfl : l.isEmpty = !(l != []))) _), by repeat (first | exact Drawn0.refl _ | apply Drawn0.step)⟩
    ·rw [if_neg c5] at H
     exact absurd H (by simp)
   ·rw [if_neg c4] at H
    exact absurd H (by simp)
  ·rw [if_neg c3] at H
   exact absurd H (by simp)
 ·rw [if_neg c2] at H
  have c2b0 : decide (a0 < 10) = false := decide_eq_false c2
  clear c2
  obtain ⟨ji6, hji6⟩ : ∃ j_ : Int, (wrap64 (Int.tdiv a0 10)) = j_ := ⟨_, rfl⟩
  replace H : (if 0 ≤ (ji6) then (if (ji6) ≤ (wrap64 ((ji6) + 1)) then (if (wrap64 ((ji6) + 1)) ≤ 10 then (if 0 ≤ (Int.tmod a0 10) then (if (Int.tmod a0 10) ≤ (wrap64 ((Int.tmod a0 10) + 1)) then (if (wrap64 ((Int.tmod a0 10) + 1)) ≤ 10 then (if ((⟨#[48, 49, 50, 51, 52, 53, 54, 55, 56, 57]⟩ : ByteArray).extract ((ji6) : Int).toNat ((wrap64 ((ji6) + 1)) : Int).toNat).size + ((⟨#[48, 49, 50, 51, 52, 53, 54, 55, 56, 57]⟩ : ByteArray).extract ((Int.tmod a0 10) : Int).toNat ((wrap64 ((Int.tmod a0 10) + 1)) : Int).toNat).size ≤ 9223372036854775807 then (some (((⟨#[48, 49, 50, 51, 52, 53, 54, 55, 56, 57]⟩ : ByteArray).extract ((ji6) : Int).toNat ((wrap64 ((ji6) + 1)) : Int).toNat) ++ ((⟨#[48, 49, 50, 51, 52, 53, 54, 55, 56, 57]⟩ : ByteArray).extract ((Int.tmod a0 10) : Int).toNat ((wrap64 ((Int.tmod a0 10) + 1)) : Int).toNat))) else (none)) else (none)) else (none)) else (none)) else (none)) else (none)) else (none)) = some r := by first | (rw [hji6] at H; exact H) | (simp only [hji6] at H ⊢; exact H)
  have hji6w : (IntKind.i64.wrap (Int.tdiv a0 10)) = ji6 := (i64_w _).trans hji6
  by_cases c7 : 0 ≤ (ji6)
  ·rw [if_pos c7] at H
   have c7b0 := eq_true c7
   have c7b1 : decide (0 ≤ (ji6)) = true := decide_eq_true c7
   clear c7
   by_cases c8 : (ji6) ≤ (wrap64 ((ji6) + 1))
   ·rw [if_pos c8] at H
    have c8b0 := eq_true c8
    have c8b1 : decide ((ji6) ≤ (wrap64 ((ji6) + 1))) = true := decide_eq_true c8
    by_cases c9 : (wrap64 ((ji6) + 1)) ≤ 10
    ·rw [if_pos c9] at H
     have c9b0 := eq_true c9
     have c9b1 : decide ((wrap64 ((ji6) + 1)) ≤ 10) = true := decide_eq_true c9
     obtain ⟨ji10, hji10⟩ : ∃ j_ : Int, (Int.tmod a0 10) = j_ := ⟨_, rfl⟩
     replace H : (if 0 ≤ (ji10) then (if (ji10) ≤ (wrap64 ((ji10) + 1)) then (if (wrap64 ((ji10) + 1)) ≤ 10 then (if ((⟨#[48, 49, 50, 51, 52, 53, 54, 55, 56, 57]⟩ : ByteArray).extract ((ji6) : Int).toNat ((wrap64 ((ji6) + 1)) : Int).toNat).size + ((⟨#[48, 49, 50, 51, 52, 53, 54, 55, 56, 57]⟩ : ByteArray).extract ((ji10) : Int).toNat ((wrap64 ((ji10) + 1)) : Int).toNat).size ≤ 9223372036854775807 then (some (((⟨#[48, 49, 50, 51, 52, 53, 54, 55, 56, 57]⟩ : ByteArray).extract ((ji6) : Int).toNat ((wrap64 ((ji6) + 1)) : Int).toNat) ++ ((⟨#[48, 49, 50, 51, 52, 53, 54, 55, 56, 57]⟩ : ByteArray).extract ((ji10) : Int).toNat ((wrap64 ((ji10) + 1)) : Int).toNat))) else (none)) else (none)) else (none)) else (none)) = some r := by first | (rw [hji10] at H; exact H) | (simp only [hji10] at H ⊢; exact H)
     by_cases c11 : 0 ≤ (ji10)
     ·rw [if_pos c11] at H
      have c11b0 := eq_true c11
      have c11b1 : decide (0 ≤ (ji10)) = true := decide_eq_true c11
      clear c11
      by_cases c12 : (ji10) ≤ (wrap64 ((ji10) + 1))
      ·rw [if_pos c12] at H
       have c12b0 := eq_true c12
       have c12b1 : decide ((ji10) ≤ (wrap64 ((ji10) + 1))) = true := decide_eq_true c12
       by_cases c13 : (wrap64 ((ji10) + 1)) ≤ 10
       ·rw [if_pos c13] at H
        have c13b0 := eq_true c13
        have c13b1 : decide ((wrap64 ((ji10) + 1)) ≤ 10) = true := decide_eq_true c13
        by_cases c14 : ((⟨#[48, 49, 50, 51, 52, 53, 54, 55, 56, 57]⟩ : ByteArray).extract ((ji6) : Int).toNat ((wrap64 ((ji6) + 1)) : Int).toNat).size + ((⟨#[48, 49, 50, 51, 52, 53, 54, 55, 56, 57]⟩ : ByteArray).extract ((ji10) : Int).toNat ((wrap64 ((ji10) + 1)) : Int).toNat).size ≤ 9223372036854775807
        ·rw [if_pos c14] at H
         have c14b0 := eq_true c14
         have c14b1 : decide (((⟨#[48, 49, 50, 51, 52, 53, 54, 55, 56, 57]⟩ : ByteArray).extract ((ji6) : Int).toNat ((wrap64 ((ji6) + 1)) : Int).toNat).size + ((⟨#[48, 49, 50, 51, 52, 53, 54, 55, 56, 57]⟩ : ByteArray).extract ((ji10) : Int).toNat ((wrap64 ((ji10) + 1)) : Int).toNat).size ≤ 9223372036854775807) = true := decide_eq_true c14
         try have c14b2 : (9223372036854775807 < ((⟨#[48, 49, 50, 51, 52, 53, 54, 55, 56, 57]⟩ : ByteArray).extract ((ji6) : Int).toNat ((wrap64 ((ji6) + 1)) : Int).toNat).size + ((⟨#[48, 49, 50, 51, 52, 53, 54, 55, 56, 57]⟩ : ByteArray).extract ((ji10) : Int).toNat ((wrap64 ((ji10) + 1)) : Int).toNat).size) = False := eq_false (Nat.not_lt.2 c14)
         obtain rfl := Option.some.inj H
         go_enter Tryd.func73, Tryd.ntmps73
         go_wp2
         repeat (go_quiet (fail); try go_wp2)
         go_ret
         exact ⟨by first | rfl | (simp; done) | (simp only [← hji6, ← hji10] <;> (first | rfl | simp)) | (simp [*]; done), by repeat (first | exact Drawn0.refl _ | apply Drawn0.step)⟩
        ·rw [if_neg c14] at H
         exact absurd H (by simp)
       ·rw [if_neg c13] at H
        exact absurd H (by simp)
      ·rw [if_neg c12] at H
       exact absurd H (by simp)
     ·rw [if_neg c11] at H
      exact absurd H (by simp)
    ·rw [if_neg c9] at H
     exact absurd H (by simp)
   ·rw [if_neg c8] at H
    exact absurd H (by simp)
  ·rw [if_neg c7] at H
   exact absurd H (by simp)

end Go.Proofs.YtpmieapgbdbabaaDoor.QAll
end

section
/- Walks, written by a program of this session (wip/pp): a Go function comes to what the Lean function beside it tells. -/
namespace Go.Proofs.YtpmieapgbdbabaaDoor.QAll
open Go.RowKit Go.Proofs.YtpmieapgbdbabaaDoorW.PrintWords Go.Proofs.YtpmieapgbdbabaaDoorW.PrintLast Go.Proofs.YtpmieapgbdbabaaDoorW.PrintMore
attribute [local go_sem] max2_int min2_int max_two min_two max_three min_three max_four min_four
set_option linter.unusedVariables false
set_option linter.unusedSimpArgs false

mutual
def squelchref04_Parse.l0 : Nat → ByteArray → Int → ByteArray → Int → Option (ByteArray × Int × Bool)
 | 0, _, _, _, _ => none
 | k + 1, x0, x5, x426000, x426001 => if x5 < (x0.size : Int) then (if 0 ≤ x5 then (squelchref04_Parse.j1 k x0 x5 ((bt x0 x5) != 45) x426000 x426001) else (none)) else (squelchref04_Parse.j1 k x0 x5 false x426000 x426001)
def squelchref04_Parse.j1 : Nat → ByteArray → Int → Bool → ByteArray → Int → Option (ByteArray × Int × Bool)
 | 0, _, _, _, _, _ => none
 | k + 1, x0, x5, x19, x426000, x426001 => if x19 = true then (if 0 ≤ x5 then (if x5 < (x0.size : Int) then (if (bt x0 x5) ≥ 97 then (if (bt x0 x5) ≤ 122 then ((some (([((bt x0 x5) - 32) % 256] : List Int) : List Int)).bind fun y426 => (if x426000.size + (strOfNums y426).size ≤ 9223372036854775807 then (squelchref04_Parse.l0 k x0 (wrap64 (x5 + 1)) (x426000 ++ (strOfNums y426)) x426001) else (none))) else ((some (([bt x0 x5] : List Int) : List Int)).bind fun y429 => (if x426000.size + (strOfNums y429).size ≤ 9223372036854775807 then (squelchref04_Parse.l0 k x0 (wrap64 (x5 + 1)) (x426000 ++ (strOfNums y429)) x426001) else (none)))) else ((some (([bt x0 x5] : List Int) : List Int)).bind fun y432 => (if x426000.size + (strOfNums y432).size ≤ 9223372036854775807 then (squelchref04_Parse.l0 k x0 (wrap64 (x5 + 1)) (x426000 ++ (strOfNums y432)) x426001) else (none)))) else (none)) else (none)) else (if x5 < (x0.size : Int) then (squelchref04_Parse.l1 k x0 x5 false 0 x426000 x426001) else ((squelchref04_Right.f k x426000 x426001).bind fun t437 => (if t437 = true then (some (x426000, x426001, true)) else (some ((⟨#[]⟩ : ByteArray), 0, false)))))
def squelchref04_Parse.l1 : Nat → ByteArray → Int → Bool → Int → ByteArray → Int → Option (ByteArray × Int × Bool)
 | 0, _, _, _, _, _, _ => none
 | k + 1, x0, x5, x7, x8, x426000, x426001 => if x8 ≤ 15 then ((squelchref04_Digits.f x8).bind fun t435 => (if 0 ≤ (wrap64 (x5 + 1)) then (if (wrap64 (x5 + 1)) ≤ (x0.size : Int) then (if t435.toList = (x0.extract ((wrap64 (x5 + 1)) : Int).toNat x0.size).toList then (squelchref04_Parse.l1 k x0 x5 true (wrap64 (x8 + 1)) x426000 x8) else (squelchref04_Parse.l1 k x0 x5 x7 (wrap64 (x8 + 1)) x426000 x426001)) else (none)) else (none))) else (if x7 = true then ((squelchref04_Right.f k x426000 x426001).bind fun t436 => (if t436 = true then (some (x426000, x426001, true)) else (some ((⟨#[]⟩ : ByteArray), 0, false)))) else (some ((⟨#[]⟩ : ByteArray), 0, false)))
end
def squelchref04_Parse.f (k : Nat) (a0 : ByteArray) : Option (ByteArray × Int × Bool) := squelchref04_Parse.l0 k a0 0 (⟨#[]⟩ : ByteArray) 0
end Go.Proofs.YtpmieapgbdbabaaDoor.QAll
end

section
/- Walks, written by a program of this session (wip/pp): a Go function comes to what the Lean function beside it tells. -/
namespace Go.Proofs.YtpmieapgbdbabaaDoor.QAll
open Go.RowKit Go.Proofs.YtpmieapgbdbabaaDoorW.PrintWords Go.Proofs.YtpmieapgbdbabaaDoorW.PrintLast Go.Proofs.YtpmieapgbdbabaaDoorW.PrintMore
attribute [local go_sem] max2_int min2_int max_two min_two max_three min_three max_four min_four
set_option linter.unusedVariables false
set_option linter.unusedSimpArgs false

def squelchref04_Text.f (a0_0 : ByteArray) (a0_1 : Int) : Option (ByteArray) := if a0_1 = 0 then (some a0_0) else (if a0_0.size + 1 ≤ 9223372036854775807 then ((squelchref04_Digits.f a0_1).bind fun t345 => (if (a0_0 ++ (⟨#[45]⟩ : ByteArray)).size + t345.size ≤ 9223372036854775807 then (some ((a0_0 ++ (⟨#[45]⟩ : ByteArray)) ++ t345)) else (none))) else (none))
set_option maxHeartbeats 8000000 in
set_option maxRecDepth 100000 in
theorem squelchref04_Text.calls (a0_0 : ByteArray) (a0_1 : Int) (r : ByteArray) (w : World) (h : squelchref04_Text.f a0_0 a0_1 = some r) :
  Calls Tryd.prog 43 #[.agg #[.string a0_0, .int .i64 a0_1]] w fun e w' => e = .returned (.string r) ∧ Below w.heap.size w w' := by
 have hu23 := Tryd.underlying23
 have HB := Aside0.mk (Below.refl w.heap.size w)
 have H : (if a0_1 = 0 then (some a0_0) else (if a0_0.size + 1 ≤ 9223372036854775807 then ((squelchref04_Digits.f a0_1).bind fun t345 => (if (a0_0 ++ (⟨#[45]⟩ : ByteArray)).size + t345.size ≤ 9223372036854775807 then (some ((a0_0 ++ (⟨#[45]⟩ : ByteArray)) ++ t345)) else (none))) else (none))) = some r := h
 clear h
 by_cases c2 : a0_1 = 0
 ·rw [if_pos c2] at H
  have c2b0 : (a0_1 == 0) = true := beq_iff_eq.mpr c2
  have c2b1 : (a0_1 != 0) = false := bne_eq_false_iff_eq.mpr c2
  clear c2
  obtain rfl := Option.some.inj H
  go_enter Tryd.func43, Tryd.ntmps43
  go_wp2_with (first | ((with_reducible refine gate_dst (N := 1) rfl ?_); refine box_event ?hg (N := 1) ?hd (cs := #[.string a0_0, .int .i64 a0_1]) (t := 23) ?hr ?_; (case hd => rfl); (case hg => rfl); (case hr => first | (go_simp; done) | (go_simp; rfl)); intro gb344 hg w3 hbox hb; have n0_ := Aside0.mk (below_step (by repeat (first | (with_reducible first | exact HB.out | apply below_alloc | apply pw_below_drewN | apply below_drew1) | exact HB.out)) hb); have n1_ := Aside0.mk (hbox); have n2_ := Aside0.mk ((by rw [hg]; exact (below_size (by repeat (first | (with_reducible first | exact HB.out | apply below_alloc | apply pw_below_drewN | apply below_drew1) | exact HB.out))) : w.heap.size ≤ gb344)); have n3_ := Aside0.mk ((by rw [hg]; exact (below_size (by repeat (first | (with_reducible first | exact HB.out | apply below_alloc | apply pw_below_drewN | apply below_drew1) | exact HB.out))) : w.heap.size ≤ gb344)); clear HB; have HB := n0_; have BK344 := n1_; have GW344 := n2_; have GE344 := n3_; clear n0_ n1_ n2_ n3_; clear hb hbox hg; have hcz4_0 : w3.cell? ⟨gb344, 0, none⟩ = some (.string a0_0) := (blk_cell BK344.out 0).trans rfl; have hcz4_1 : w3.cell? ⟨gb344, 1, none⟩ = some (.int .i64 a0_1) := (blk_cell BK344.out 1).trans rfl; have hfz4_0 := blk_frozen BK344.out 0; have hfz4_1 := blk_frozen BK344.out 1))
  repeat (go_quiet (first | ((with_reducible refine gate_dst (N := 1) rfl ?_); refine box_event ?hg (N := 1) ?hd (cs := #[.string a0_0, .int .i64 a0_1]) (t := 23) ?hr ?_; (case hd => rfl); (case hg => rfl); (case hr => first | (go_simp; done) | (go_simp; rfl)); intro gb344 hg w3 hbox hb; have n0_ := Aside0.mk (below_step (by repeat (first | (with_reducible first | exact HB.out | apply below_alloc | apply pw_below_drewN | apply below_drew1) | exact HB.out)) hb); have n1_ := Aside0.mk (hbox); have n2_ := Aside0.mk ((by rw [hg]; exact (below_size (by repeat (first | (with_reducible first | exact HB.out | apply below_alloc | apply pw_below_drewN | apply below_drew1) | exact HB.out))) : w.heap.size ≤ gb344)); have n3_ := Aside0.mk ((by rw [hg]; exact (below_size (by repeat (first | (with_reducible first | exact HB.out | apply below_alloc | apply pw_below_drewN | apply below_drew1) | exact HB.out))) : w.heap.size ≤ gb344)); clear HB; have HB := n0_; have BK344 := n1_; have GW344 := n2_; have GE344 := n3_; clear n0_ n1_ n2_ n3_; clear hb hbox hg; have hcz4_0 : w3.cell? ⟨gb344, 0, none⟩ = some (.string a0_0) := (blk_cell BK344.out 0).trans rfl; have hcz4_1 : w3.cell? ⟨gb344, 1, none⟩ = some (.int .i64 a0_1) := (blk_cell BK344.out 1).trans rfl; have hfz4_0 := blk_frozen BK344.out 0; have hfz4_1 := blk_frozen BK344.out 1)); try go_wp2_with (first | ((with_reducible refine gate_dst (N := 1) rfl ?_); refine box_event ?hg (N := 1) ?hd (cs := #[.string a0_0, .int .i64 a0_1]) (t := 23) ?hr ?_; (case hd => rfl); (case hg => rfl); (case hr => first | (go_simp; done) | (go_simp; rfl)); intro gb344 hg w3 hbox hb; have n0_ := Aside0.mk (below_step (by repeat (first | (with_reducible first | exact HB.out | apply below_alloc | apply pw_below_drewN | apply below_drew1) | exact HB.out)) hb); have n1_ := Aside0.mk (hbox); have n2_ := Aside0.mk ((by rw [hg]; exact (below_size (by repeat (first | (with_reducible first | exact HB.out | apply below_alloc | apply pw_below_drewN | apply below_drew1) | exact HB.out))) : w.heap.size ≤ gb344)); have n3_ := Aside0.mk ((by rw [hg]; exact (below_size (by repeat (first | (with_reducible first | exact HB.out | apply below_alloc | apply pw_below_drewN | apply below_drew1) | exact HB.out))) : w.heap.size ≤ gb344)); clear HB; have HB := n0_; have BK344 := n1_; have GW344 := n2_; have GE344 := n3_; clear n0_ n1_ n2_ n3_; clear hb hbox hg; have hcz4_0 : w3.cell? ⟨gb344, 0, none⟩ = some (.string a0_0) := (blk_cell BK344.out 0).trans rfl; have hcz4_1 : w3.cell? ⟨gb344, 1, none⟩ = some (.int .i64 a0_1) := (blk_cell BK344.out 1).trans rfl; have hfz4_0 := blk_frozen BK344.out 0; have hfz4_1 := blk_frozen BK344.out 1)))
  go_ret
  exact ⟨by first | rfl | (simp [errW_none, errW_some] <;> rfl) | (simp [*, errW_none, errW_some] <;> rfl), by repeat (first | (with_reducible first | exact HB.out | apply below_alloc | apply pw_below_drewN | apply below_drew1 | refine below_set ?_ GE344.out) | exact HB.out)⟩
 ·rw [if_neg c2] at H
  have c2b0 : (a0_1 == 0) = false := beq_eq_false_iff_ne.mpr c2
  have c2b1 : (a0_1 != 0) = true := bne_iff_ne.mpr c2
  by_cases c5 : a0_0.size + 1 ≤ 9223372036854775807
  ·rw [if_pos c5] at H
   have c5b0 := eq_true c5
   have c5b1 : decide (a0_0.size + 1 ≤ 9223372036854775807) = true := decide_eq_true c5
   try have c5b2 : (9223372036854775807 < a0_0.size + 1) = False := eq_false (Nat.not_lt.2 c5)
   replace H := Option.bind_eq_some_iff.mp H
   obtain ⟨t345, A60, H⟩ := H
   replace H : (if (a0_0 ++ (⟨#[45]⟩ : ByteArray)).size + t345.size ≤ 9223372036854775807 then (some ((a0_0 ++ (⟨#[45]⟩ : ByteArray)) ++ t345)) else (none)) = some r := H
   have A6 := Aside0.mk A60
   clear A60
   by_cases c7 : (a0_0 ++ (⟨#[45]⟩ : ByteArray)).size + t345.size ≤ 9223372036854775807
   ·rw [if_pos c7] at H
    have c7b0 := eq_true c7
    have c7b1 : decide ((a0_0 ++ (⟨#[45]⟩ : ByteArray)).size + t345.size ≤ 9223372036854775807) = true := decide_eq_true c7
    try have c7b2 : (9223372036854775807 < (a0_0 ++ (⟨#[45]⟩ : ByteArray)).size + t345.size) = False := eq_false (Nat.not_lt.2 c7)
    obtain rfl := Option.some.inj H
    go_enter Tryd.func43, Tryd.ntmps43
    go_wp2_with (first | ((with_reducible refine gate_dst (N := 1) rfl ?_); refine box_event ?hg (N := 1) ?hd (cs := #[.string a0_0, .int .i64 a0_1]) (t := 23) ?hr ?_; (case hd => rfl); (case hg => rfl); (case hr => first | (go_simp; done) | (go_simp; rfl)); intro gb344 hg w8 hbox hb; have n0_ := Aside0.mk (below_step (by repeat (first | (with_reducible first | exact HB.out | apply below_alloc | apply pw_below_drewN | apply below_drew1) | exact HB.out)) hb); have n1_ := Aside0.mk (hbox); have n2_ := Aside0.mk ((by rw [hg]; exact (below_size (by repeat (first | (with_reducible first | exact HB.out | apply below_alloc | apply pw_below_drewN | apply below_drew1) | exact HB.out))) : w.heap.size ≤ gb344)); have n3_ := Aside0.mk ((by rw [hg]; exact (below_size (by repeat (first | (with_reducible first | exact HB.out | apply below_alloc | apply pw_below_drewN | apply below_drew1) | exact HB.out))) : w.heap.size ≤ gb344)); clear HB; have HB := n0_; have BK344 := n1_; have GW344 := n2_; have GE344 := n3_; clear n0_ n1_ n2_ n3_; clear hb hbox hg; have hcz9_0 : w8.cell? ⟨gb344, 0, none⟩ = some (.string a0_0) := (blk_cell BK344.out 0).trans rfl; have hcz9_1 : w8.cell? ⟨gb344, 1, none⟩ = some (.int .i64 a0_1) := (blk_cell BK344.out 1).trans rfl; have hfz9_0 := blk_frozen BK344.out 0; have hfz9_1 := blk_frozen BK344.out 1) | (go_at_call 73; (with_reducible refine (squelchref04_Digits.calls a0_1 t345 _ A6.out).mono ?_); rintro e w' ⟨rfl, ⟨nd, rfl⟩⟩; (try first | exact ⟨rfl, _, World.drewN_drewN _ _ _⟩ | exact ⟨rfl, _, Eq.trans (World.drewN_drewN _ _ _) (congrArg (World.drewN _) (Nat.add_assoc _ _ _))⟩)))
    repeat (go_quiet (first | ((with_reducible refine gate_dst (N := 1) rfl ?_); refine box_event ?hg (N := 1) ?hd (cs := #[.string a0_0, .int .i64 a0_1]) (t := 23) ?hr ?_; (case hd => rfl); (case hg => rfl); (case hr => first | (go_simp; done) | (go_simp; rfl)); intro gb344 hg w8 hbox hb; have n0_ := Aside0.mk (below_step (by repeat (first | (with_reducible first | exact HB.out | apply below_alloc | apply pw_below_drewN | apply below_drew1) | exact HB.out)) hb); have n1_ := Aside0.mk (hbox); have n2_ := Aside0.mk ((by rw [hg]; exact (below_size (by repeat (first | (with_reducible first | exact HB.out | apply below_alloc | apply pw_below_drewN | apply below_drew1) | exact HB.out))) : w.heap.size ≤ gb344)); have n3_ := Aside0.mk ((by rw [hg]; exact (below_size (by repeat (first | (with_reducible first | exact HB.out | apply below_alloc | apply pw_below_drewN | apply below_drew1) | exact HB.out))) : w.heap.size ≤ gb344)); clear HB; have HB := n0_; have BK344 := n1_; have GW344 := n2_; have GE344 := n3_; clear n0_ n1_ n2_ n3_; clear hb hbox hg; have hcz9_0 : w8.cell? ⟨gb344, 0, none⟩ = some (.string a0_0) := (blk_cell BK344.out 0).trans rfl; have hcz9_1 : w8.cell? ⟨gb344, 1, none⟩ = some (.int .i64 a0_1) := (blk_cell BK344.out 1).trans rfl; have hfz9_0 := blk_frozen BK344.out 0; have hfz9_1 := blk_frozen BK344.out 1) | (go_at_call 73; (with_reducible refine (squelchref04_Digits.calls a0_1 t345 _ A6.out).mono ?_); rintro e w' ⟨rfl, ⟨nd, rfl⟩⟩; (try first | exact ⟨rfl, _, World.drewN_drewN _ _ _⟩ | exact ⟨rfl, _, Eq.trans (World.drewN_drewN _ _ _) (congrArg (World.drewN _) (Nat.add_assoc _ _ _))⟩))); try go_wp2_with (first | ((with_reducible refine gate_dst (N := 1) rfl ?_); refine box_event ?hg (N := 1) ?hd (cs := #[.string a0_0, .int .i64 a0_1]) (t := 23) ?hr ?_; (case hd => rfl); (case hg => rfl); (case hr => first | (go_simp; done) | (go_simp; rfl)); intro gb344 hg w8 hbox hb; have n0_ := Aside0.mk (below_step (by repeat (first | (with_reducible first | exact HB.out | apply below_alloc | apply pw_below_drewN | apply below_drew1) | exact HB.out)) hb); have n1_ := Aside0.mk (hbox); have n2_ := Aside0.mk ((by rw [hg]; exact (below_size (by repeat (first | (with_reducible first | exact HB.out | apply below_alloc | apply pw_below_drewN | apply below_drew1) | exact HB.out))) : w.heap.size ≤ gb344)); have n3_ := Aside0.mk ((by rw [hg]; exact (below_size (by repeat (first | (with_reducible first | exact HB.out | apply below_alloc | apply pw_below_drewN | apply below_drew1) | exact HB.out))) : w.heap.size ≤ gb344)); clear HB; have HB := n0_; have BK344 := n1_; have GW344 := n2_; have GE344 := n3_; clear n0_ n1_ n2_ n3_; clear hb hbox hg; have hcz9_0 : w8.cell? ⟨gb344, 0, none⟩ = some (.string a0_0) := (blk_cell BK344.out 0).trans rfl; have hcz9_1 : w8.cell? ⟨gb344, 1, none⟩ = some (.int .i64 a0_1) := (blk_cell BK344.out 1).trans rfl; have hfz9_0 := blk_frozen BK344.out 0; have hfz9_1 := blk_frozen BK344.out 1) | (go_at_call 73; (with_reducible refine (squelchref04_Digits.calls a0_1 t345 _ A6.out).mono ?_); rintro e w' ⟨rfl, ⟨nd, rfl⟩⟩; (try first | exact ⟨rfl, _, World.drewN_drewN _ _ _⟩ | exact ⟨rfl, _, Eq.trans (World.drewN_drewN _ _ _) (congrArg (World.drewN _) (Nat.add_assoc _ _ _))⟩))))
    go_ret
    exact ⟨by first | rfl | (simp [errW_none, errW_some] <;> rfl) | (simp [*, errW_none, errW_some] <;> rfl), by repeat (first | (with_reducible first | exact HB.out | apply below_alloc | apply pw_below_drewN | apply below_drew1 | refine below_set ?_ GE344.out) | exact HB.out)⟩
   ·rw [if_neg c7] at H
    exact absurd H (by simp)
  ·rw [if_neg c5] at H
   exact absurd H (by simp)

end Go.Proofs.YtpmieapgbdbabaaDoor.QAll
end

section
/- What the reference says of a call's word: which call is right, its digits, and what is read of a word: as much as the walked program tells; over plain strings and numbers. -/
set_option linter.unusedVariables false
namespace Go.Proofs.YtpmieapgbdbabaaDoor.Pure
open Go.RowKit Go.Proofs.YtpmieapgbdbabaaDoor.QAll Go.Proofs.YtpmieapgbdbabaaDoorW.PrintWords Go.Proofs.YtpmieapgbdbabaaDoorW.PrintLast

theorem ba_eq {a b : ByteArray} (h : a.toList = b.toList) : a = b := by
  rw [Go.ByteArray.toList_eq, Go.ByteArray.toList_eq] at h
  cases a; cases b
  congr 1
  exact Array.ext' h
theorem len_eq (a : ByteArray) : a.toList.length = a.size := by rw [Go.ByteArray.toList_eq]; simp
theorem bt_at (s : ByteArray) (i : Nat) (h : i < s.size) : ∃ c r, s.toList.drop i = c :: r ∧ s.toList.drop (i + 1) = r ∧ bt s i = (c.toNat : Int) := by
  have hl : i < s.toList.length := by rw [len_eq]; exact h
  refine ⟨s.toList[i], s.toList.drop (i + 1), List.drop_eq_getElem_cons hl, rfl, ?_⟩
  rw [bt_data s i h]
  congr 2
  simp only [Go.ByteArray.toList_eq]
theorem drop_all (s : ByteArray) (i : Nat) (h : s.size ≤ i) : s.toList.drop i = [] := List.drop_eq_nil_of_le (by rw [len_eq]; exact h)
theorem wrap_succ (i : Nat) (h : i < 9223372036854775807) : wrap64 ((i : Int) + 1) = ((i + 1 : Nat) : Int) := by unfold wrap64; omega

theorem ref_right_l (s : ByteArray) (n : Int) (hs : s.size < 9223372036854775807) : ∀ (d k i : Nat), s.size - i ≤ d → d + 1 ≤ k → i ≤ s.size →
    squelchref04_Right.l0 k (i : Int) s n = some ((s.toList.drop i).all fun c => letB c.toNat)
  | d, 0, i, _, hk, _ => absurd hk (by omega)
  | d, k + 1, i, hd, hk, hi => by
    rw [squelchref04_Right.l0]
    by_cases h : i < s.size
    · obtain ⟨c, r, e1, e2, e3⟩ := bt_at s i h
      obtain ⟨d', rfl⟩ : ∃ d', d = d' + 1 := ⟨d - 1, by omega⟩
      have ih := ref_right_l s n hs d' k (i + 1) (by omega) (by omega) (by omega)
      rw [if_pos (by omega), if_pos (by omega), e3, wrap_succ i (by omega), ih, e1, e2]
      simp only [List.all_cons]
      unfold letB
      by_cases h1 : (c.toNat : Int) ≥ 65
      · rw [if_pos h1]
        by_cases h2 : (c.toNat : Int) ≤ 90
        · rw [if_pos h2, decide_eq_true (by omega), Bool.true_and]
        · rw [if_neg h2, if_pos (by omega), if_neg (by omega), decide_eq_false (by omega), Bool.false_and]
      · rw [if_neg h1]
        by_cases h2 : (c.toNat : Int) ≥ 48
        · rw [if_pos h2]
          by_cases h3 : (c.toNat : Int) ≤ 57
          · rw [if_pos h3, decide_eq_true (by omega), Bool.true_and]
          · rw [if_neg h3, decide_eq_false (by omega), Bool.false_and]
        · rw [if_neg h2, decide_eq_false (by omega), Bool.false_and]
    · rw [if_neg (by omega), drop_all s i (by omega)]
      rfl
theorem ref_right (s : ByteArray) (n : Int) (hs : s.size < 9223372036854775807) (k : Nat) (hk : s.size + 2 ≤ k) : squelchref04_Right.f k s n = some (rightB s n) := by
  obtain ⟨k, rfl⟩ : ∃ k', k = k' + 1 := ⟨k - 1, by omega⟩
  unfold squelchref04_Right.f rightB
  have h0 := ref_right_l s n hs s.size k 0 (by omega) (by omega) (by omega)
  simp only [squelchref04_Right.j0]
  rw [show ((0 : Nat) : Int) = 0 from rfl] at h0
  rw [h0, List.drop_zero]
  have hl : letsB s = s.toList.all fun c => letB c.toNat := by unfold letsB; rw [Go.ByteArray.toList_eq]
  rw [hl]
  by_cases h1 : (s.size : Int) < 1
  · rw [if_pos h1, if_pos trivial, decide_eq_false (show ¬ 1 ≤ s.size by omega)]; simp
  · rw [if_neg h1, decide_eq_true (show 1 ≤ s.size by omega)]
    by_cases h2 : (s.size : Int) > 6
    · rw [if_pos h2, if_pos trivial, decide_eq_false (show ¬ s.size ≤ 6 by omega)]; simp
    · rw [if_neg h2, decide_eq_true (show s.size ≤ 6 by omega)]
      by_cases h3 : n < 0
      · rw [if_pos h3, if_pos trivial, decide_eq_false (show ¬ 0 ≤ n by omega)]; simp
      · rw [if_neg h3, decide_eq_true (show 0 ≤ n by omega)]
        by_cases h4 : n > 15
        · rw [decide_eq_true h4, if_pos rfl, decide_eq_false (show ¬ n ≤ 15 by omega)]; simp
        · rw [decide_eq_false h4, if_neg (by simp), decide_eq_true (show n ≤ 15 by omega)]; simp

def digs (n : Nat) : List UInt8 := if n < 10 then [UInt8.ofNat (48 + n)] else [UInt8.ofNat (48 + n / 10), UInt8.ofNat (48 + n % 10)]
theorem digs_dec (n : Nat) (h : n < 100) : Lib.decDigits n = digs n := by
  unfold digs
  by_cases h1 : n < 10
  · rw [if_pos h1, Lib.decDigits_one h1]
  · rw [if_neg h1, Lib.decDigits_two h1 h]
theorem ref_digits_all : ((List.range 100).all fun n => decide ((squelchref04_Digits.f (n : Int)).map (·.toList) = some (digs n))) = true := by kernel_rfl
theorem ref_digits (n : Nat) (h : n < 100) : squelchref04_Digits.f (n : Int) = some ⟨(digs n).toArray⟩ := by
  have h1 := of_decide_eq_true (List.all_eq_true.1 ref_digits_all n (List.mem_range.2 h))
  cases hx : squelchref04_Digits.f (n : Int) with
  | none => rw [hx] at h1; cases h1
  | some y =>
    rw [hx] at h1
    congr 1
    apply ba_eq
    rw [Option.map_some] at h1
    rw [Option.some.inj h1, Go.ByteArray.toList_eq]
theorem toList_app (a b : ByteArray) : (a ++ b).toList = a.toList ++ b.toList := by
  simp [Go.ByteArray.toList_eq]
theorem toList_ext (a : ByteArray) (i j : Nat) : (a.extract i j).toList = (a.toList.take j).drop i := by
  simp [Go.ByteArray.toList_eq, ByteArray.data_extract, List.drop_take]
end Go.Proofs.YtpmieapgbdbabaaDoor.Pure
end

section
/- What a right call's word is, and that it is read as the call; over plain strings and numbers. -/
set_option linter.unusedVariables false
namespace Go.Proofs.YtpmieapgbdbabaaDoor.Pure
open Go.RowKit Go.Proofs.YtpmieapgbdbabaaDoor.QAll Go.Proofs.YtpmieapgbdbabaaDoorW.PrintWords Go.Proofs.YtpmieapgbdbabaaDoorW.PrintLast

theorem right_parts {s : ByteArray} {n : Int} (h : rightB s n = true) : (∀ c ∈ s.toList, (65 ≤ c.toNat ∧ c.toNat ≤ 90) ∨ (48 ≤ c.toNat ∧ c.toNat ≤ 57)) ∧ 1 ≤ s.size ∧ s.size ≤ 6 ∧ 0 ≤ n ∧ n ≤ 15 := by
  unfold rightB at h
  simp only [Bool.and_eq_true, decide_eq_true_eq] at h
  refine ⟨fun c hc => ?_, h.2⟩
  have h1 := h.1
  unfold letsB at h1
  rw [← Go.ByteArray.toList_eq] at h1
  have := List.all_eq_true.1 h1 c hc
  unfold letB at this
  simp only [decide_eq_true_eq] at this
  omega
/-- A right call's word. -/
def textS (s : ByteArray) (n : Int) : ByteArray := if n = 0 then s else (s ++ (⟨#[45]⟩ : ByteArray)) ++ ⟨(digs n.toNat).toArray⟩
theorem digs_len (n : Nat) : (digs n).length ≤ 2 := by unfold digs; split <;> simp
theorem digs_size (n : Nat) : (⟨(digs n).toArray⟩ : ByteArray).size ≤ 2 := by
  have := digs_len n
  show (digs n).toArray.size ≤ 2
  simpa using this
theorem text_size (s : ByteArray) (n : Int) : (textS s n).size ≤ s.size + 3 := by
  unfold textS
  split
  · omega
  · have := digs_size n.toNat
    simp only [ByteArray.size_append]
    have h1 : (⟨#[45]⟩ : ByteArray).size = 1 := rfl
    omega
theorem call_text (s : ByteArray) (n : Int) (hs : s.size ≤ 1000000) : call_Text.f s n = some (if rightB s n = true then textS s n else ⟨#[]⟩) := by
  unfold call_Text.f call_Right.f
  rw [if_pos (by omega), Option.bind_some]
  by_cases hr : rightB s n = true
  · rw [if_pos hr, if_pos hr]
    unfold textS
    by_cases h0 : n = 0
    · rw [if_pos h0, if_pos h0]
    · obtain ⟨_, _, _, h1, h2⟩ := right_parts hr
      obtain ⟨m, rfl⟩ := Int.eq_ofNat_of_zero_le h1
      have hd := digs_size m
      rw [if_neg h0, if_neg h0, if_pos (by omega)]
      unfold strconv_Itoa_69.f
      rw [if_pos (by omega), Option.bind_some, show ((m : Int)).toNat = m from by omega, digs_dec m (by omega)]
      rw [if_pos (by
        simp only [ByteArray.size_append]
        have h1 : (⟨#[45]⟩ : ByteArray).size = 1 := rfl
        omega)]
  · rw [if_neg hr, if_neg hr]
theorem ref_text (s : ByteArray) (n : Int) (hr : rightB s n = true) : squelchref04_Text.f s n = some (textS s n) := by
  obtain ⟨_, _, h3, h1, h2⟩ := right_parts hr
  unfold squelchref04_Text.f textS
  by_cases h0 : n = 0
  · rw [if_pos h0, if_pos h0]
  · obtain ⟨m, rfl⟩ := Int.eq_ofNat_of_zero_le h1
    have hd := digs_size m
    rw [if_neg h0, if_neg h0, if_pos (by omega), ref_digits m (by omega), Option.bind_some, show ((m : Int)).toNat = m from by omega]
    rw [if_pos (by
      simp only [ByteArray.size_append]
      have h1 : (⟨#[45]⟩ : ByteArray).size = 1 := rfl
      omega)]
end Go.Proofs.YtpmieapgbdbabaaDoor.Pure
end

section
/- Walks, written by a program of this session (wip/pp): a Go function comes to what the Lean function beside it tells. -/
namespace Go.Proofs.YtpmieapgbdbabaaDoor.QAll
open Go.RowKit Go.Proofs.YtpmieapgbdbabaaDoorW.PrintWords Go.Proofs.YtpmieapgbdbabaaDoorW.PrintLast Go.Proofs.YtpmieapgbdbabaaDoorW.PrintMore
attribute [local go_sem] max2_int min2_int max_two min_two max_three min_three max_four min_four
set_option linter.unusedVariables false
set_option linter.unusedSimpArgs false

def squelchref05_Next.l0 : Nat → Int → List (S37) → Option (Int)
 | 0, _, _ => none
 | k + 1, x3, x161000 => if x3 < (x161000.length : Int) then (if 0 ≤ x3 then (if ((rd_T37 x161000 x3).f1 = true) then (squelchref05_Next.l0 k (wrap64 (x3 + 1)) x161000) else (some x3)) else (none)) else (some (-1))
def squelchref05_Next.f (k : Nat) (l0_0 : List (S37)) : Option (Int) := squelchref05_Next.l0 k 2 l0_0
set_option maxHeartbeats 8000000 in
set_option maxRecDepth 100000 in
theorem squelchref05_Next.calls (k : Nat) (A0_0 : Option Addr) (c0_0 : Nat) (l0_0 : List (S37)) (r : Int) (w : World) (hr0_0 : Kd.C k37 w A0_0 l0_0.length l0_0) (hc0_0 : l0_0.length ≤ c0_0) (h : squelchref05_Next.f k l0_0 = some r) :
  Calls Tryd.prog 19 #[.agg #[.slice A0_0 l0_0.length c0_0]] w fun e w' => e = .returned (.int .i64 r) ∧ Below w.heap.size w w' := by
 have hu31 := Tryd.underlying31
 have HR0_0 := Aside0.mk hr0_0
 have HC0_0 := Aside0.mk hc0_0
 clear hr0_0 hc0_0
 have HB := Aside0.mk (Below.refl w.heap.size w)
 have H : (squelchref05_Next.l0 k 2 l0_0) = some r := h
 clear h
 have H' := Aside0.mk H
 clear H
 go_enter Tryd.func19, Tryd.ntmps19
 go_wp2_with (first | ((with_reducible refine gate_dst (N := 1) rfl ?_); refine box_event ?hg (N := 1) ?hd (cs := #[.slice A0_0 l0_0.length c0_0]) (t := 31) ?hr ?_; (case hd => rfl); (case hg => rfl); (case hr => first | (go_simp; done) | (go_simp; rfl)); intro gb160 hg w2 hbox hb; have n0_ := Aside0.mk (below_step (by repeat (first | (with_reducible first | exact HB.out | apply below_alloc | apply pw_below_drewN | apply below_drew1) | exact HB.out)) hb); have n1_ := Aside0.mk (hbox); have n2_ := Aside0.mk ((by rw [hg]; exact (below_size (by repeat (first | (with_reducible first | exact HB.out | apply below_alloc | apply pw_below_drewN | apply below_drew1) | exact HB.out))) : w.heap.size ≤ gb160)); have n3_ := Aside0.mk ((by rw [hg]; exact (below_size (by repeat (first | (with_reducible first | exact HB.out | apply below_alloc | apply pw_below_drewN | apply below_drew1) | exact HB.out))) : w.heap.size ≤ gb160)); clear HB; have HB := n0_; have BK160 := n1_; have GW160 := n2_; have GE160 := n3_; clear n0_ n1_ n2_ n3_; clear hb hbox hg))
 go_loopg [3] k (fun kq v3 w' => ∃ (x3_1 : Int), v3 = .int .i64 x3_1 ∧ Aside0 (squelchref05_Next.l0 kq x3_1 l0_0 = some r) ∧ Aside0 (kq ≤ k) ∧ Aside0 (w'.heap[gb160]? = some (.cells #[(.slice A0_0 l0_0.length c0_0)] 31 (0, 0))) ∧ Aside0 (Below w.heap.size w w'))
 case atStart => exact ⟨(2), (by first | rfl | (simp; done) | (simp [*]; done) | (simp; exact (fun l : List UInt8 => (by cases l <;> rfl : l.isEmpty = !(l != []))) _)), H', ⟨Nat.le_refl _⟩, ⟨by (with_reducible repeat (first | refine blk_drewN ?_ _ | refine blk_drew ?_ | refine blk_alloc ?_ _)); exact BK160.out⟩, ⟨by repeat (first | (with_reducible first | exact HB.out | apply below_alloc | apply pw_below_drewN | apply below_drew1 | refine below_set ?_ GE160.out) | exact HB.out)⟩⟩
 case round =>
  clear H'
  try clear c1
  try clear p2
  obtain ⟨x3_1, rfl, HA, HK1, BK160, HB⟩ := hrel
  cases gk with
  | zero => exact absurd HA.out (by simp [squelchref05_Next.l0])
  | succ k1 =>
   have H := HA.out
   clear HA
   simp only [squelchref05_Next.l0] at H
   by_cases c3 : x3_1 < (l0_0.length : Int)
   ·rw [if_pos c3] at H
    have c3b0 : decide (x3_1 < (l0_0.length : Int)) = true := decide_eq_true c3
    clear c3
    by_cases c4 : 0 ≤ x3_1
    ·rw [if_pos c4] at H
     have c4b0 : decide (0 ≤ x3_1) = true := decide_eq_true c4
     clear c4
     obtain ⟨bq5, hbq5⟩ : ∃ b_ : Bool, b_ = ((rd_T37 l0_0 x3_1).f1) := ⟨_, rfl⟩
     replace H : (if (bq5 = true) then (squelchref05_Next.l0 k1 (wrap64 (x3_1 + 1)) l0_0) else (some x3_1)) = some r := by rw [← hbq5] at H; exact H
     have Nbq5 := Aside0.mk hbq5
     clear hbq5
     by_cases c6 : (bq5 = true)
     ·subst c6
      have H1 : (squelchref05_Next.l0 k1 (wrap64 (x3_1 + 1)) l0_0) = some r := by rw [if_pos rfl] at H; exact H
      clear H
      have H := H1
      clear H1
      have H' := Aside0.mk H
      clear H
      have hcz7_0 : wr.cell? ⟨gb160, 0, none⟩ = some (.slice A0_0 l0_0.length c0_0) := (blk_cell BK160.out 0).trans rfl
      have hfz7_0 := blk_frozen BK160.out 0
      have p161 : 0 ≤ (x3_1 : Int) := of_decide_eq_true (by first | (with_reducible assumption) | assumption)
      have q161 : x3_1 < (l0_0.length : Int) := of_decide_eq_true (by first | (with_reducible assumption) | assumption)
      obtain ⟨ad161, e161, hx161_0, hx161_1, hx161_2⟩ := at_T37 HR0_0.out x3_1 p161 q161
      (try rw [← Nbq5.out] at hx161_2)
      cases e161
      replace hx161_0 := (HB.out.cell (World.block_lt_of_cell? w _ hx161_0)).trans hx161_0
      replace hx161_1 := (HB.out.cell (World.block_lt_of_cell? w _ hx161_1)).trans hx161_1
      replace hx161_2 := (HB.out.cell (World.block_lt_of_cell? w _ hx161_2)).trans hx161_2
      replace p161 := eq_true p161
      replace q161 := eq_true q161
      go_wp2
      go_roundg k1
      case measure => have := HK1.out; omega
      case rel => exact ⟨(wrap64 (x3_1 + 1)), (by first | rfl | (simp; done) | (simp [*]; done) | (simp; exact (fun l : List UInt8 => (by cases l <;> rfl : l.isEmpty = !(l != []))) _)), H', ⟨by have := HK1.out; omega⟩, ⟨by (with_reducible repeat (first | refine blk_drewN ?_ _ | refine blk_drew ?_ | refine blk_alloc ?_ _)); exact BK160.out⟩, ⟨by repeat (first | (with_reducible first | exact HB.out | apply below_alloc | apply pw_below_drewN | apply below_drew1 | refine below_set ?_ GE160.out) | exact HB.out)⟩⟩
     ·replace c6 := Bool.eq_false_iff.mpr c6
      subst c6
      have H1 : (some x3_1) = some r := by rw [if_neg (show ¬ (false = true) by decide)] at H; exact H
      clear H
      have H := H1
      clear H1
      obtain rfl := Option.some.inj H
      have hcz8_0 : wr.cell? ⟨gb160, 0, none⟩ = some (.slice A0_0 l0_0.length c0_0) := (blk_cell BK160.out 0).trans rfl
      have hfz8_0 := blk_frozen BK160.out 0
      have p161 : 0 ≤ (x3_1 : Int) := of_decide_eq_true (by first | (with_reducible assumption) | assumption)
      have q161 : x3_1 < (l0_0.length : Int) := of_decide_eq_true (by first | (with_reducible assumption) | assumption)
      obtain ⟨ad161, e161, hx161_0, hx161_1, hx161_2⟩ := at_T37 HR0_0.out x3_1 p161 q161
      (try rw [← Nbq5.out] at hx161_2)
      cases e161
      replace hx161_0 := (HB.out.cell (World.block_lt_of_cell? w _ hx161_0)).trans hx161_0
      replace hx161_1 := (HB.out.cell (World.block_lt_of_cell? w _ hx161_1)).trans hx161_1
      replace hx161_2 := (HB.out.cell (World.block_lt_of_cell? w _ hx161_2)).trans hx161_2
      replace p161 := eq_true p161
      replace q161 := eq_true q161
      go_wp2
      go_ret
      exact ⟨by first | rfl | (simp [errW_none, errW_some] <;> rfl) | (simp [*, errW_none, errW_some] <;> rfl), by repeat (first | (with_reducible first | exact HB.out | apply below_alloc | apply pw_below_drewN | apply below_drew1 | refine below_set ?_ GE160.out) | exact HB.out)⟩
    ·rw [if_neg c4] at H
     exact absurd H (by simp)
   ·rw [if_neg c3] at H
    have c3b0 : decide (x3_1 < (l0_0.length : Int)) = false := decide_eq_false c3
    clear c3
    obtain rfl := Option.some.inj H
    have hcz9_0 : wr.cell? ⟨gb160, 0, none⟩ = some (.slice A0_0 l0_0.length c0_0) := (blk_cell BK160.out 0).trans rfl
    have hfz9_0 := blk_frozen BK160.out 0
    go_wp2
    go_ret
    exact ⟨by first | rfl | (simp [errW_none, errW_some] <;> rfl) | (simp [*, errW_none, errW_some] <;> rfl), by repeat (first | (with_reducible first | exact HB.out | apply below_alloc | apply pw_below_drewN | apply below_drew1 | refine below_set ?_ GE160.out) | exact HB.out)⟩

end Go.Proofs.YtpmieapgbdbabaaDoor.QAll
end

section
/- squelchref05.Text, walked by hand: a right path's word, as the reference writes it. -/
set_option linter.unusedVariables false
set_option linter.unusedSimpArgs false
namespace Go.Proofs.YtpmieapgbdbabaaDoor.QAll
open Go.RowKit Go.Proofs.YtpmieapgbdbabaaDoor.Pure Go.Proofs.YtpmieapgbdbabaaDoorW.PrintWords Go.Proofs.YtpmieapgbdbabaaDoorW.PrintLast Go.Proofs.YtpmieapgbdbabaaDoorW.PrintMore

/-- The first digipeater that has not sent it, in the reference's own count; -1. -/
def rnextFrom : Nat → List S37 → Int
  | _, [] => -1
  | i, d :: r => if d.f1 = true then rnextFrom (i + 1) r else i
def rlast (l : List S37) : Int := if rnextFrom 2 (l.drop 2) = -1 then (l.length : Int) - 1 else rnextFrom 2 (l.drop 2) - 1
/-- The digipeaters' words from the i-th entry on. -/
def rtx (last : Int) : Nat → List S37 → List UInt8
  | _, [] => []
  | i, d :: r => 44 :: ((textS d.f0.f0 d.f0.f1).toList ++ ((if (i : Int) = last then [42] else []) ++ rtx last (i + 1) r))
def rtext (l : List S37) : List UInt8 := (textS (rd_T37 l 1).f0.f0 (rd_T37 l 1).f0.f1).toList ++ 62 :: ((textS (rd_T37 l 0).f0.f0 (rd_T37 l 0).f0.f1).toList ++ rtx (rlast l) 2 (l.drop 2))
def squelchref05_Text.f (l0_0 : List S37) : Option ByteArray := if (decide (2 ≤ l0_0.length ∧ l0_0.length ≤ 1000000) && l0_0.all (fun d => rightB d.f0.f0 d.f0.f1)) = true then some ⟨(rtext l0_0).toArray⟩ else none
theorem drop_T37 (l : List S37) (k : Nat) (h : k < l.length) : l.drop k = rd_T37 l k :: l.drop (k + 1) := by
  rw [List.drop_eq_getElem_cons h]
  unfold rd_T37
  rw [Int.toNat_natCast, List.getD_eq_getElem?_getD, List.getElem?_eq_getElem h]
  rfl
theorem next_at (l : List S37) (hl : l.length ≤ 1000000) : ∀ (d i k : Nat), l.length - i ≤ d → d + 1 ≤ k → i ≤ l.length → squelchref05_Next.l0 k (i : Int) l = some (rnextFrom i (l.drop i))
  | d, i, 0, _, hk, _ => absurd hk (by omega)
  | d, i, k + 1, hd, hk, hi => by
    rw [squelchref05_Next.l0]
    by_cases h : i < l.length
    · obtain ⟨d', rfl⟩ : ∃ d', d = d' + 1 := ⟨d - 1, by omega⟩
      rw [if_pos (by omega), if_pos (by omega), wrap_succ i (by omega), next_at l hl d' (i + 1) k (by omega) (by omega) (by omega), drop_T37 l i h]
      conv => rhs; unfold rnextFrom
      by_cases hf : (rd_T37 l (i : Int)).f1 = true
      · rw [if_pos (by exact hf), if_pos hf]
      · rw [if_neg (by exact hf), if_neg hf]
    · rw [if_neg (by omega), List.drop_eq_nil_of_le (by omega)]
      rfl
theorem next_f37 (l : List S37) (hl : l.length ≤ 1000000) (h2 : 2 ≤ l.length) (k : Nat) (hk : l.length + 1 ≤ k) : squelchref05_Next.f k l = some (rnextFrom 2 (l.drop 2)) := by
  unfold squelchref05_Next.f
  exact next_at l hl l.length 2 k (by omega) hk (by omega)
theorem RdOk.below {w W W1 : World} (h : RdOk w W) (hb : Below W.heap.size W W1) : RdOk w W1 := fun a v hv => (hb.cell (World.block_lt_of_cell? W a (h a v hv))).trans (h a v hv)
def squelchref05_Text.T1 : Bool × List (List Nat × List Nat) := (true, [([], []), ([0], [0]), ([1], [1]), ([2], [2]), ([3], [3]), ([4], [4]), ([5], [5]), ([], []), ([7], [7]), ([8], [8]), ([9], [9]), ([10], [10]), ([11, 5], [11]), ([6, 12], [6, 12]), ([13, 12, 0, 1, 2, 3, 4, 5, 6, 7, 8, 9, 10, 11, 12, 13], [13])])
def squelchref05_Text.B1 : List Nat := [0, 1, 3, 7, 15, 31, 63, 0, 128, 384, 896, 1920, 4031, 8191, 16383]
theorem squelchref05_Text.tab1 : rtab .any (opsOf Tryd.f35 1) = squelchref05_Text.T1 := by kernel_rfl
theorem squelchref05_Text.bits1 : waitsOk squelchref05_Text.T1.2 squelchref05_Text.B1 = true := by kernel_rfl
theorem S_eq {S : ByteArray} {X : List UInt8} (h : S.toList = X) : S = ⟨X.toArray⟩ := ba_eq (by rw [h, Go.ByteArray.toList_eq])
theorem rnext_ge : ∀ (i : Nat) (l : List S37), rnextFrom i l = -1 ∨ (i : Int) ≤ rnextFrom i l
  | i, [] => Or.inl rfl
  | i, d :: r => by
    unfold rnextFrom
    split
    · rcases rnext_ge (i + 1) r with h | h
      · exact Or.inl h
      · exact Or.inr (by omega)
    · exact Or.inr (Int.le_refl _)
theorem rnext_le : ∀ (i : Nat) (l : List S37), rnextFrom i l ≤ (i : Int) + l.length
  | i, [] => by show (-1 : Int) ≤ _; omega
  | i, d :: r => by
    unfold rnextFrom
    split
    · have := rnext_le (i + 1) r
      simp only [List.length_cons]
      omega
    · simp only [List.length_cons]; omega
set_option maxHeartbeats 2000000 in
set_option maxRecDepth 100000 in
theorem squelchref05_Text.calls (A0_0 : Option Addr) (c0_0 : Nat) (l0_0 : List (S37)) (r : ByteArray) (w : World) (hr0_0 : Kd.C k37 w A0_0 l0_0.length l0_0) (hc0_0 : l0_0.length ≤ c0_0) (h : squelchref05_Text.f l0_0 = some r) :
    Calls Tryd.prog 35 #[.agg #[.slice A0_0 l0_0.length c0_0]] w fun e w' => e = .returned (.string r) ∧ Below w.heap.size w w' := by
  unfold squelchref05_Text.f at h
  split at h
  case isFalse => cases h
  rename_i hs
  have HR := Aside0.mk (Option.some.inj h)
  rw [Bool.and_eq_true, decide_eq_true_eq, List.all_eq_true] at hs
  obtain ⟨⟨h2, hm⟩, hall⟩ := hs
  have HC := Aside0.mk hr0_0
  have HAL := Aside0.mk (show ∀ k : Nat, k < l0_0.length → squelchref04_Text.f (rd_T37 l0_0 k).f0.f0 (rd_T37 l0_0 k).f0.f1 = some (textS (rd_T37 l0_0 k).f0.f0 (rd_T37 l0_0 k).f0.f1) ∧ (textS (rd_T37 l0_0 k).f0.f0 (rd_T37 l0_0 k).f0.f1).size ≤ 9 from fun k hk => by
    have hr : rightB (rd_T37 l0_0 k).f0.f0 (rd_T37 l0_0 k).f0.f1 = true := hall _ (by unfold rd_T37; rw [Int.toNat_natCast, List.getD_eq_getElem?_getD, List.getElem?_eq_getElem hk]; exact List.getElem_mem hk)
    have hp := right_parts hr
    have := text_size (rd_T37 l0_0 k).f0.f0 (rd_T37 l0_0 k).f0.f1
    exact ⟨ref_text _ _ hr, by omega⟩)
  clear hr0_0 h hall
  obtain ⟨ad, rfl, x0, x1, _⟩ := at_T37 HC.out 0 (by omega) (by omega)
  obtain ⟨ad', e', y0, y1, _⟩ := at_T37 HC.out 1 (by omega) (by omega)
  cases e'
  have hu31 := Tryd.underlying31
  have hu37 := Tryd.underlying37
  have hu23 := Tryd.underlying23
  go_enter Tryd.func35, Tryd.ntmps35
  go_upto_region 1 with fail
  have xs : (w.alloc (.cells #[.slice (some ad) l0_0.length c0_0] 31)).drew.cell? ⟨w.heap.size, 0, none⟩ = some (.slice (some ad) l0_0.length c0_0) := blk_cell (heap_alloc_new w (.cells #[.slice (some ad) l0_0.length c0_0] 31)) 0
  have FB := Aside0.mk (below_drew1 ((Below.refl w.heap.size w).alloc (Nat.le_refl _) (.cells #[.slice (some ad) l0_0.length c0_0] 31)))
  have FS := Aside0.mk (show w.heap.size + 1 ≤ (w.alloc (.cells #[.slice (some ad) l0_0.length c0_0] 31)).drew.heap.size by show _ ≤ (w.alloc _).heap.size; simp)
  have old : ∀ (a : Addr) (v : Value), w.cell? a = some v → (w.alloc (.cells #[.slice (some ad) l0_0.length c0_0] 31)).drew.cell? a = some v := fun a v h => by
    show (w.alloc _).cell? a = some v
    rw [World.cell?_alloc_lt]
    · exact h
    · exact World.block_lt_of_cell? w a h
  have x0 := old _ _ x0
  have x1 := old _ _ x1
  have y0 := old _ _ y0
  have y1 := old _ _ y1
  clear old
  generalize w.alloc (.cells #[.slice (some ad) l0_0.length c0_0] 31) = w1 at x0 x1 y0 y1 FB FS xs ⊢
  replace x0 : w1.drew.cell? ad = some (.string (rd_T37 l0_0 0).f0.f0) := x0
  replace x1 : w1.drew.cell? ⟨ad.block, ad.off + 1, none⟩ = some (.int .i64 (rd_T37 l0_0 0).f0.f1) := x1
  replace y0 : w1.drew.cell? ⟨ad.block, ad.off + 3, none⟩ = some (.string (rd_T37 l0_0 1).f0.f0) := y0
  replace y1 : w1.drew.cell? ⟨ad.block, ad.off + 3 + 1, none⟩ = some (.int .i64 (rd_T37 l0_0 1).f0.f1) := y1
  have g1 := HAL.out 1 (by omega)
  have g0 := HAL.out 0 (by omega)
  rw [show ((1 : Nat) : Int) = 1 from rfl] at g1
  rw [show ((0 : Nat) : Int) = 0 from rfl] at g0
  obtain ⟨t1, ht1⟩ : ∃ t, t = textS (rd_T37 l0_0 1).f0.f0 (rd_T37 l0_0 1).f0.f1 := ⟨_, rfl⟩
  obtain ⟨t0, ht0⟩ : ∃ t, t = textS (rd_T37 l0_0 0).f0.f0 (rd_T37 l0_0 0).f0.f1 := ⟨_, rfl⟩
  rw [← ht1] at g1
  rw [← ht0] at g0
  have HT1 := Aside0.mk g1.1
  have HT0 := Aside0.mk g0.1
  have HE1 := Aside0.mk ht1
  have HE0 := Aside0.mk ht0
  have HZ1 := Aside0.mk g1.2
  have HZ0 := Aside0.mk g0.2
  have h62 : (⟨#[62]⟩ : ByteArray).size = 1 := rfl
  have hw1 : t1.size + 1 ≤ 9223372036854775807 := by omega
  have hw2 : (t1 ++ (⟨#[62]⟩ : ByteArray)).size + t0.size ≤ 9223372036854775807 := by simp only [ByteArray.size_append]; omega
  have hw3 : t1.size + 1 + t0.size ≤ 9223372036854775807 := by omega
  have hl1 : (1 : Int) < (l0_0.length : Int) := by omega
  have hl0 : (0 : Int) < (l0_0.length : Int) := by omega
  have hnil : (l0_0 = []) = False := eq_false (fun e => by rw [e] at h2; exact absurd h2 (by decide))
  clear g1 g0 ht1 ht0
  refine start_ (n := 15) (S := fun w' => True) (ds := []) #[false, false, false, false, false, false, false, false, false, false, false, false, false, false, false] (by kernel_rfl) rfl rfl trivial (fun hHeld => ?_)
  refine with_tabW squelchref05_Text.tab1 squelchref05_Text.bits1 (fun HT_ HW_ => ?_)
  generalize hw10 : w1.drew = w10 at xs x0 x1 y0 y1 FB hHeld ⊢
  have FR := Aside0.mk (rdOk_refl w10)
  refine pure_ (i := 0) (N := some 6) (v := ?_) (a' := ?_) #[true, false, false, false, false, false, false, false, false, false, false, false, false, false, false] rfl rfl (any_of HT_.out (by kernel_rfl)) (fun _ _ _ h => h) (Or.inl ⟨by rfl, ?_⟩) ?_ ?_
  rotate_left
  · intro w'
    go_simp
    with_reducible rfl
  rotate_left
  · simp only [Act.put, List.setIfInBounds_toArray, List.set_cons_zero, List.set_cons_succ, i64_w, i32_w]
    rfl
  refine pure_ (i := 7) (N := some 13) (v := ?_) (a' := ?_) #[true, false, false, false, false, false, false, true, false, false, false, false, false, false, false] rfl rfl (any_of HT_.out (by kernel_rfl)) (fun _ _ _ h => h) (Or.inl ⟨by rfl, ?_⟩) ?_ ?_
  rotate_left
  · intro w'
    go_simp
    with_reducible rfl
  rotate_left
  · simp only [Act.put, List.setIfInBounds_toArray, List.set_cons_zero, List.set_cons_succ, i64_w, i32_w]
    rfl
  refine inv_at [1, 2, 3, 4, 5, 6, 8, 9, 10, 11, 12, 13, 14] (fun a0_ b a w' => a = putSel a0_ b [(1, 7, .slice (some ad) l0_0.length c0_0), (2, 8, .pointer (some (ad.add 3))), (3, 9, .pointer (some (ad.add 3))), (4, 10, .agg #[.string (rd_T37 l0_0 1).f0.f0, .int .i64 (rd_T37 l0_0 1).f0.f1]), (5, 11, .string t1), (6, 12, .string (t1 ++ (⟨#[62]⟩ : ByteArray))), (8, 14, .slice (some ad) l0_0.length c0_0), (9, 15, .pointer (some ad)), (10, 16, .pointer (some ad)), (11, 17, .agg #[.string (rd_T37 l0_0 0).f0.f0, .int .i64 (rd_T37 l0_0 0).f0.f1]), (12, 18, .string t0), (13, 19, .string ((t1 ++ (⟨#[62]⟩ : ByteArray)) ++ t0)), (14, 3, .string ((t1 ++ (⟨#[62]⟩ : ByteArray)) ++ t0))] ∧ (RdOk w10 w') ∧ (Below w.heap.size w w')) HT_.out HW_.out (by kernel_rfl) (by kernel_rfl) ?_ ?_ ?_
  · exact ⟨by simp only [putSel, Bool.false_eq_true, if_false], FR.out, FB.out⟩
  · skip
    clear FB FR
    refine steps_cons ?_ ?_
    · rintro b a w' ⟨ha, Q_FR, Q_FB⟩ hb_ hon hoff
      refine ⟨_, rfl, fun K hK => ?_⟩
      have e6 : a.tmps[6]? = some (.pointer (some ⟨w.heap.size, 0, none⟩)) := by rw [ha]; exact (putSel_off rfl).trans rfl
      replace ha := Aside0.mk ha
      have FR := Aside0.mk Q_FR
      have FB := Aside0.mk Q_FB
      have hc_ := FR.out _ _ xs
      refine value_ (w1 := w') (v := .slice (some ad) l0_0.length c0_0) (by rfl) rfl ?_ ?_
      · go_simp
        (try simp only [i64_w])
        try rfl
        all_goals (try ((try simp only [ByteArray.size_append] at *); omega))
      refine hK.out _ _ ⟨(by rw [ha.out]; exact putSel_upk 0 hb_ rfl rfl rfl), Q_FR, Q_FB⟩
    refine steps_cons ?_ ?_
    · rintro b a w' ⟨ha, Q_FR, Q_FB⟩ hb_ hon hoff
      refine ⟨_, rfl, fun K hK => ?_⟩
      have e7 : a.tmps[7]? = some (.slice (some ad) l0_0.length c0_0) := by rw [ha]; exact putSel_on (e := (1, 7, .slice (some ad) l0_0.length c0_0)) 0 rfl rfl (hon 1 (by kernel_rfl)) rfl
      replace ha := Aside0.mk ha
      have FR := Aside0.mk Q_FR
      have FB := Aside0.mk Q_FB
      refine value_ (w1 := w') (v := .pointer (some (ad.add 3))) (by rfl) rfl ?_ ?_
      · go_simp
        (try simp only [i64_w])
        try rfl
        all_goals (try ((try simp only [ByteArray.size_append] at *); omega))
      refine hK.out _ _ ⟨(by rw [ha.out]; exact putSel_upk 1 hb_ rfl rfl rfl), Q_FR, Q_FB⟩
    refine steps_cons ?_ ?_
    · rintro b a w' ⟨ha, Q_FR, Q_FB⟩ hb_ hon hoff
      refine ⟨_, rfl, fun K hK => ?_⟩
      have e8 : a.tmps[8]? = some (.pointer (some (ad.add 3))) := by rw [ha]; exact putSel_on (e := (2, 8, .pointer (some (ad.add 3)))) 1 rfl rfl (hon 2 (by kernel_rfl)) rfl
      replace ha := Aside0.mk ha
      have FR := Aside0.mk Q_FR
      have FB := Aside0.mk Q_FB
      refine value_ (w1 := w') (v := .pointer (some (ad.add 3))) (by rfl) rfl ?_ ?_
      · go_simp
        (try simp only [i64_w])
        try rfl
        all_goals (try ((try simp only [ByteArray.size_append] at *); omega))
      refine hK.out _ _ ⟨(by rw [ha.out]; exact putSel_upk 2 hb_ rfl rfl rfl), Q_FR, Q_FB⟩
    refine steps_cons ?_ ?_
    · rintro b a w' ⟨ha, Q_FR, Q_FB⟩ hb_ hon hoff
      refine ⟨_, rfl, fun K hK => ?_⟩
      have e9 : a.tmps[9]? = some (.pointer (some (ad.add 3))) := by rw [ha]; exact putSel_on (e := (3, 9, .pointer (some (ad.add 3)))) 2 rfl rfl (hon 3 (by kernel_rfl)) rfl
      replace ha := Aside0.mk ha
      have FR := Aside0.mk Q_FR
      have FB := Aside0.mk Q_FB
      have hc0_ := FR.out _ _ y0
      have hc1_ := FR.out _ _ y1
      refine value_ (w1 := w') (v := .agg #[.string (rd_T37 l0_0 1).f0.f0, .int .i64 (rd_T37 l0_0 1).f0.f1]) (by rfl) rfl ?_ ?_
      · go_simp
        (try simp only [i64_w])
        try rfl
        all_goals (try ((try simp only [ByteArray.size_append] at *); omega))
      refine hK.out _ _ ⟨(by rw [ha.out]; exact putSel_upk 3 hb_ rfl rfl rfl), Q_FR, Q_FB⟩
    refine steps_cons ?_ ?_
    · rintro b a w' ⟨ha, Q_FR, Q_FB⟩ hb_ hon hoff
      refine ⟨_, rfl, fun K hK => ?_⟩
      have e10 : a.tmps[10]? = some (.agg #[.string (rd_T37 l0_0 1).f0.f0, .int .i64 (rd_T37 l0_0 1).f0.f1]) := by rw [ha]; exact putSel_on (e := (4, 10, .agg #[.string (rd_T37 l0_0 1).f0.f0, .int .i64 (rd_T37 l0_0 1).f0.f1])) 3 rfl rfl (hon 4 (by kernel_rfl)) rfl
      replace ha := Aside0.mk ha
      have FR := Aside0.mk Q_FR
      have FB := Aside0.mk Q_FB
      refine goes_ Tryd.func43 (by kernel_rfl) rfl #[.agg #[.string (rd_T37 l0_0 1).f0.f0, .int .i64 (rd_T37 l0_0 1).f0.f1]] (by rfl) rfl rfl (by first | (simp only [List.map_toArray, List.map_cons, List.map_nil, Act.eval, Array.getD_eq_getD_getElem?, Option.getD_some, e10]; done) | (simp only [List.map_toArray, List.map_cons, List.map_nil, Act.eval, Array.getD_eq_getD_getElem?, Option.getD_some, e10]; rfl)) ?_
      with_reducible refine (squelchref04_Text.calls (rd_T37 l0_0 1).f0.f0 (rd_T37 l0_0 1).f0.f1 t1 _ HT1.out).mono ?_
      rintro e w' ⟨rfl, hbel_⟩
      refine ⟨_, rfl, ?_⟩
      refine hK.out _ _ ⟨(by rw [ha.out]; exact putSel_upk 4 hb_ rfl rfl rfl), RdOk.below FR.out hbel_, below_then FB.out FB.out.size hbel_⟩
    refine steps_cons ?_ ?_
    · rintro b a w' ⟨ha, Q_FR, Q_FB⟩ hb_ hon hoff
      refine ⟨_, rfl, fun K hK => ?_⟩
      have e11 : a.tmps[11]? = some (.string t1) := by rw [ha]; exact putSel_on (e := (5, 11, .string t1)) 4 rfl rfl (hon 5 (by kernel_rfl)) rfl
      replace ha := Aside0.mk ha
      have FR := Aside0.mk Q_FR
      have FB := Aside0.mk Q_FB
      refine value_ (w1 := w') (v := .string (t1 ++ (⟨#[62]⟩ : ByteArray))) (by rfl) rfl ?_ ?_
      · go_simp
        (try simp only [i64_w])
        try rfl
        all_goals (try ((try simp only [ByteArray.size_append] at *); omega))
      refine hK.out _ _ ⟨(by rw [ha.out]; exact putSel_upk 5 hb_ rfl rfl rfl), Q_FR, Q_FB⟩
    refine steps_cons ?_ ?_
    · rintro b a w' ⟨ha, Q_FR, Q_FB⟩ hb_ hon hoff
      refine ⟨_, rfl, fun K hK => ?_⟩
      have e13 : a.tmps[13]? = some (.pointer (some ⟨w.heap.size, 0, none⟩)) := by rw [ha]; exact (putSel_off rfl).trans rfl
      replace ha := Aside0.mk ha
      have FR := Aside0.mk Q_FR
      have FB := Aside0.mk Q_FB
      have hc_ := FR.out _ _ xs
      refine value_ (w1 := w') (v := .slice (some ad) l0_0.length c0_0) (by rfl) rfl ?_ ?_
      · go_simp
        (try simp only [i64_w])
        try rfl
        all_goals (try ((try simp only [ByteArray.size_append] at *); omega))
      refine hK.out _ _ ⟨(by rw [ha.out]; exact putSel_upk 6 hb_ rfl rfl rfl), Q_FR, Q_FB⟩
    refine steps_cons ?_ ?_
    · rintro b a w' ⟨ha, Q_FR, Q_FB⟩ hb_ hon hoff
      refine ⟨_, rfl, fun K hK => ?_⟩
      have e14 : a.tmps[14]? = some (.slice (some ad) l0_0.length c0_0) := by rw [ha]; exact putSel_on (e := (8, 14, .slice (some ad) l0_0.length c0_0)) 6 rfl rfl (hon 8 (by kernel_rfl)) rfl
      replace ha := Aside0.mk ha
      have FR := Aside0.mk Q_FR
      have FB := Aside0.mk Q_FB
      refine value_ (w1 := w') (v := .pointer (some ad)) (by rfl) rfl ?_ ?_
      · go_simp
        (try simp only [i64_w])
        try rfl
        all_goals (try ((try simp only [ByteArray.size_append] at *); omega))
      refine hK.out _ _ ⟨(by rw [ha.out]; exact putSel_upk 7 hb_ rfl rfl rfl), Q_FR, Q_FB⟩
    refine steps_cons ?_ ?_
    · rintro b a w' ⟨ha, Q_FR, Q_FB⟩ hb_ hon hoff
      refine ⟨_, rfl, fun K hK => ?_⟩
      have e15 : a.tmps[15]? = some (.pointer (some ad)) := by rw [ha]; exact putSel_on (e := (9, 15, .pointer (some ad))) 7 rfl rfl (hon 9 (by kernel_rfl)) rfl
      replace ha := Aside0.mk ha
      have FR := Aside0.mk Q_FR
      have FB := Aside0.mk Q_FB
      refine value_ (w1 := w') (v := .pointer (some ad)) (by rfl) rfl ?_ ?_
      · go_simp
        (try simp only [i64_w])
        try rfl
        all_goals (try ((try simp only [ByteArray.size_append] at *); omega))
      refine hK.out _ _ ⟨(by rw [ha.out]; exact putSel_upk 8 hb_ rfl rfl rfl), Q_FR, Q_FB⟩
    refine steps_cons ?_ ?_
    · rintro b a w' ⟨ha, Q_FR, Q_FB⟩ hb_ hon hoff
      refine ⟨_, rfl, fun K hK => ?_⟩
      have e16 : a.tmps[16]? = some (.pointer (some ad)) := by rw [ha]; exact putSel_on (e := (10, 16, .pointer (some ad))) 8 rfl rfl (hon 10 (by kernel_rfl)) rfl
      replace ha := Aside0.mk ha
      have FR := Aside0.mk Q_FR
      have FB := Aside0.mk Q_FB
      have hc0_ := FR.out _ _ x0
      have hc1_ := FR.out _ _ x1
      refine value_ (w1 := w') (v := .agg #[.string (rd_T37 l0_0 0).f0.f0, .int .i64 (rd_T37 l0_0 0).f0.f1]) (by rfl) rfl ?_ ?_
      · go_simp
        (try simp only [i64_w])
        try rfl
        all_goals (try ((try simp only [ByteArray.size_append] at *); omega))
      refine hK.out _ _ ⟨(by rw [ha.out]; exact putSel_upk 9 hb_ rfl rfl rfl), Q_FR, Q_FB⟩
    refine steps_cons ?_ ?_
    · rintro b a w' ⟨ha, Q_FR, Q_FB⟩ hb_ hon hoff
      refine ⟨_, rfl, fun K hK => ?_⟩
      have e17 : a.tmps[17]? = some (.agg #[.string (rd_T37 l0_0 0).f0.f0, .int .i64 (rd_T37 l0_0 0).f0.f1]) := by rw [ha]; exact putSel_on (e := (11, 17, .agg #[.string (rd_T37 l0_0 0).f0.f0, .int .i64 (rd_T37 l0_0 0).f0.f1])) 9 rfl rfl (hon 11 (by kernel_rfl)) rfl
      replace ha := Aside0.mk ha
      have FR := Aside0.mk Q_FR
      have FB := Aside0.mk Q_FB
      refine goes_ Tryd.func43 (by kernel_rfl) rfl #[.agg #[.string (rd_T37 l0_0 0).f0.f0, .int .i64 (rd_T37 l0_0 0).f0.f1]] (by rfl) rfl rfl (by first | (simp only [List.map_toArray, List.map_cons, List.map_nil, Act.eval, Array.getD_eq_getD_getElem?, Option.getD_some, e17]; done) | (simp only [List.map_toArray, List.map_cons, List.map_nil, Act.eval, Array.getD_eq_getD_getElem?, Option.getD_some, e17]; rfl)) ?_
      with_reducible refine (squelchref04_Text.calls (rd_T37 l0_0 0).f0.f0 (rd_T37 l0_0 0).f0.f1 t0 _ HT0.out).mono ?_
      rintro e w' ⟨rfl, hbel_⟩
      refine ⟨_, rfl, ?_⟩
      refine hK.out _ _ ⟨(by rw [ha.out]; exact putSel_upk 10 hb_ rfl rfl rfl), RdOk.below FR.out hbel_, below_then FB.out FB.out.size hbel_⟩
    refine steps_cons ?_ ?_
    · rintro b a w' ⟨ha, Q_FR, Q_FB⟩ hb_ hon hoff
      refine ⟨_, rfl, fun K hK => ?_⟩
      have e12 : a.tmps[12]? = some (.string (t1 ++ (⟨#[62]⟩ : ByteArray))) := by rw [ha]; exact putSel_on (e := (6, 12, .string (t1 ++ (⟨#[62]⟩ : ByteArray)))) 5 rfl rfl (hon 6 (by kernel_rfl)) rfl
      have e18 : a.tmps[18]? = some (.string t0) := by rw [ha]; exact putSel_on (e := (12, 18, .string t0)) 10 rfl rfl (hon 12 (by kernel_rfl)) rfl
      replace ha := Aside0.mk ha
      have FR := Aside0.mk Q_FR
      have FB := Aside0.mk Q_FB
      refine value_ (w1 := w') (v := .string ((t1 ++ (⟨#[62]⟩ : ByteArray)) ++ t0)) (by rfl) rfl ?_ ?_
      · go_simp
        (try simp only [i64_w])
        try rfl
        all_goals (try ((try simp only [ByteArray.size_append] at *); omega))
      refine hK.out _ _ ⟨(by rw [ha.out]; exact putSel_upk 11 hb_ rfl rfl rfl), Q_FR, Q_FB⟩
    refine steps_cons ?_ ?_
    · rintro b a w' ⟨ha, Q_FR, Q_FB⟩ hb_ hon hoff
      refine ⟨_, rfl, fun K hK => ?_⟩
      have e19 : a.tmps[19]? = some (.string ((t1 ++ (⟨#[62]⟩ : ByteArray)) ++ t0)) := by rw [ha]; exact putSel_on (e := (13, 19, .string ((t1 ++ (⟨#[62]⟩ : ByteArray)) ++ t0))) 11 rfl rfl (hon 13 (by kernel_rfl)) rfl
      replace ha := Aside0.mk ha
      have FR := Aside0.mk Q_FR
      have FB := Aside0.mk Q_FB
      refine value_ (w1 := w') (v := .string ((t1 ++ (⟨#[62]⟩ : ByteArray)) ++ t0)) (by rfl) rfl ?_ ?_
      · go_simp
        (try simp only [i64_w])
        try rfl
        all_goals (try ((try simp only [ByteArray.size_append] at *); omega))
      refine hK.out _ _ ⟨(by rw [ha.out]; exact putSel_upk 12 hb_ rfl rfl rfl), Q_FR, Q_FB⟩
    exact steps_nil
  · rintro b a w' hall ⟨ha, Q_FR, Q_FB⟩
    clear FB FR
    have hb1_ := hall 1 (by kernel_rfl)
    have hb2_ := hall 2 (by kernel_rfl)
    have hb3_ := hall 3 (by kernel_rfl)
    have hb4_ := hall 4 (by kernel_rfl)
    have hb5_ := hall 5 (by kernel_rfl)
    have hb6_ := hall 6 (by kernel_rfl)
    have hb8_ := hall 8 (by kernel_rfl)
    have hb9_ := hall 9 (by kernel_rfl)
    have hb10_ := hall 10 (by kernel_rfl)
    have hb11_ := hall 11 (by kernel_rfl)
    have hb12_ := hall 12 (by kernel_rfl)
    have hb13_ := hall 13 (by kernel_rfl)
    have hb14_ := hall 14 (by kernel_rfl)
    subst ha
    simp only [putSel, hb1_, hb2_, hb3_, hb4_, hb5_, hb6_, hb8_, hb9_, hb10_, hb11_, hb12_, hb13_, hb14_, if_true, Act.put, List.setIfInBounds_toArray, List.set_cons_zero, List.set_cons_succ]
    have FR := Aside0.mk Q_FR
    clear Q_FR
    have FB := Aside0.mk Q_FB
    clear Q_FB
    clear hall hb1_ hb2_ hb3_ hb4_ hb5_ hb6_ hb8_ hb9_ hb10_ hb11_ hb12_ hb13_ hb14_
    have xs2 := FR.out _ _ xs
    have FZ := Aside0.mk (show w.heap.size + 1 ≤ w'.heap.size from World.block_lt_of_cell? w' _ xs2)
    go_wp2_with (fail)
    refine (squelchref05_Next.calls (l0_0.length + 1) (some ad) c0_0 l0_0 (rnextFrom 2 (l0_0.drop 2)) _ (Kd.C_below HC.out FB.out) hc0_0 (next_f37 l0_0 hm h2 _ (Nat.le_refl _))).mono ?_
    rintro e w2 ⟨rfl, hb⟩
    have FB2 := Aside0.mk (below_then FB.out FB.out.size hb)
    have xs3 := (RdOk.below FR.out hb) _ _ xs
    have FR2 := Aside0.mk (RdOk.below FR.out hb)
    clear FB FR xs2 hb FZ
    have HS := Aside0.mk (show ((t1 ++ (⟨#[62]⟩ : ByteArray)) ++ t0).toList ++ rtx (rlast l0_0) 2 (l0_0.drop 2) = rtext l0_0 by
      unfold rtext
      rw [toList_app, toList_app, ← HE1.out, ← HE0.out, show (⟨#[62]⟩ : ByteArray).toList = [62] by rw [Go.ByteArray.toList_eq]]
      simp)
    have HSZ := Aside0.mk (show ((t1 ++ (⟨#[62]⟩ : ByteArray)) ++ t0).size ≤ 20 + 12 * 2 by simp only [ByteArray.size_append]; have := HZ1.out; have := HZ0.out; omega)
    have hrn := rnext_ge 2 (l0_0.drop 2)
    have hru := rnext_le 2 (l0_0.drop 2)
    rw [List.length_drop] at hru
    clear HT1 HT0 HE1 HE0 HZ1 HZ0 hw1 hw2 hw3 x0 x1 y0 y1
    generalize (t1 ++ (⟨#[62]⟩ : ByteArray)) ++ t0 = S0 at HS HSZ ⊢
    obtain ⟨ln, hln⟩ : ∃ x, x = rlast l0_0 := ⟨_, rfl⟩
    have hlnI : (rnextFrom 2 (l0_0.drop 2) = -1 → ln = (l0_0.length : Int) - 1) ∧ (rnextFrom 2 (l0_0.drop 2) ≠ -1 → ln = rnextFrom 2 (l0_0.drop 2) - 1) := by
      rw [hln]
      unfold rlast
      exact ⟨fun h => by rw [if_pos h], fun h => by rw [if_neg h]⟩
    rw [← hln] at HS
    clear hln
    generalize rnextFrom 2 (l0_0.drop 2) = rn at hrn hru hlnI ⊢
    have hwr : wrap64 (rn - 1) = rn - 1 := by unfold wrap64; omega
    have hwl : wrap64 ((l0_0.length : Int) - 1) = (l0_0.length : Int) - 1 := by unfold wrap64; omega
    have HLN := Aside0.mk hlnI
    have HRN := Aside0.mk hrn
    clear hlnI hrn hru
    go_upto_if 24 with fail
    go_cut [4] from 22 to 28 (fun v4 wx => v4 = .int .i64 ln ∧ Aside0 (wx = w2))
    case first =>
      by_cases hn : rn = -1
      · obtain rfl := HLN.out.1 hn
        have hc : (rn - 1 == -2) = true := by rw [beq_iff_eq]; omega
        clear hn
        go_wp2_with (fail)
        go_meet
        exact ⟨by first | rfl | rw [hwl], ⟨rfl⟩⟩
      · obtain rfl := HLN.out.2 hn
        have hge : 2 ≤ rn := HRN.out.resolve_left hn
        have hc : (rn - 1 == -2) = false := by rw [beq_eq_false_iff_ne]; omega
        clear hn
        go_wp2_with (fail)
        go_meet
        exact ⟨by first | rfl | rw [hwr], ⟨rfl⟩⟩
    case rest =>
      obtain ⟨rfl, hwc⟩ := hcut
      obtain rfl := hwc.out
      clear hwc HLN HRN hwr hwl
      have hst : ∀ X : World, True := fun _ => trivial
      go_wp2
      go_loopw [3, 5] (fun v3 v5 wr => ∃ (k : Nat) (S : ByteArray), 2 ≤ k ∧ k ≤ l0_0.length ∧ v5 = .int .i64 k ∧ v3 = .string S ∧ Aside0 (S.toList ++ rtx ln k (l0_0.drop k) = rtext l0_0) ∧ Aside0 (S.size ≤ 20 + 12 * k) ∧ Aside0 (RdOk w10 wr) ∧ Aside0 (Below w.heap.size w wr)) (fun v3 v5 _ => l0_0.length - (intOf v5).toNat)
      case atStart => exact ⟨2, S0, by omega, h2, rfl, rfl, HS, HSZ, FR2, FB2⟩
      case round =>
        clear HS HSZ FR2 FB2 xs3
        obtain ⟨k, S, hk2, hk, rfl, rfl, HS, HSZ, FR, FB⟩ := hrel
        have xs4 := FR.out _ _ xs
        by_cases hlt : k < l0_0.length
        · obtain ⟨ad2, e', z0, z1, _⟩ := at_T37 (Kd.C_below HC.out FB.out) k (by omega) (by omega)
          cases e'
          simp only [Int.toNat_natCast] at z0 z1
          have hg := HAL.out k hlt
          obtain ⟨tk, htk⟩ : ∃ t, t = textS (rd_T37 l0_0 k).f0.f0 (rd_T37 l0_0 k).f0.f1 := ⟨_, rfl⟩
          rw [← htk] at hg
          have HTK := Aside0.mk hg.1
          have HEK := Aside0.mk htk
          have hz := HSZ.out
          have hz2 := hg.2
          have h44 : (⟨#[44]⟩ : ByteArray).size = 1 := rfl
          have h42 : (⟨#[42]⟩ : ByteArray).size = 1 := rfl
          have hw1 : S.size + 1 ≤ 9223372036854775807 := by omega
          have hw2 : (S ++ (⟨#[44]⟩ : ByteArray)).size + tk.size ≤ 9223372036854775807 := by simp only [ByteArray.size_append]; omega
          have hw3 : S.size + 1 + tk.size ≤ 9223372036854775807 := by omega
          have hw4 : S.size + 1 + tk.size + 1 ≤ 9223372036854775807 := by omega
          have hw5 : ((S ++ (⟨#[44]⟩ : ByteArray)) ++ tk).size + 1 ≤ 9223372036854775807 := by simp only [ByteArray.size_append]; omega
          have HW := Aside0.mk (show wrap64 ((k : Int) + 1) = ((k + 1 : Nat) : Int) by unfold wrap64; omega)
          have HNX := Aside0.mk (show ∀ q : List UInt8, (if (k : Int) = ln then [42] else []) = q → (S.toList ++ 44 :: (tk.toList ++ q)) ++ rtx ln (k + 1) (l0_0.drop (k + 1)) = rtext l0_0 by
            intro q hq
            rw [← HS.out, drop_T37 l0_0 k hlt]
            conv => rhs; unfold rtx
            rw [hq, ← HEK.out]
            simp)
          have HSS := Aside0.mk (show S.size + tk.size ≤ 20 + 12 * k + 9 by omega)
          clear hg htk HS HSZ hz hz2
          go_wp2_with (fail)
          refine (squelchref04_Text.calls (rd_T37 l0_0 k).f0.f0 (rd_T37 l0_0 k).f0.f1 tk _ HTK.out).mono ?_
          rintro e w5 ⟨rfl, hb⟩
          have FR5 := Aside0.mk (RdOk.below FR.out hb)
          have FB5 := Aside0.mk (below_then FB.out FB.out.size hb)
          clear FR FB xs4 hb z0 z1
          by_cases heq : (k : Int) = ln
          · have hce : ((k : Int) == ln) = true := by rw [beq_iff_eq]; exact heq
            have hq := HNX.out [42] (by rw [if_pos heq])
            clear HNX heq
            go_wp2_with (fail)
            try rw [HW.out]
            have hS2 : (((S ++ (⟨#[44]⟩ : ByteArray)) ++ tk) ++ (⟨#[42]⟩ : ByteArray)).toList = S.toList ++ 44 :: (tk.toList ++ [42]) := by
              rw [toList_app, toList_app, toList_app, show (⟨#[44]⟩ : ByteArray).toList = [44] by rw [Go.ByteArray.toList_eq], show (⟨#[42]⟩ : ByteArray).toList = [42] by rw [Go.ByteArray.toList_eq]]
              simp
            exact ⟨⟨k + 1, ((S ++ (⟨#[44]⟩ : ByteArray)) ++ tk) ++ (⟨#[42]⟩ : ByteArray), by omega, by omega, by first | rfl | (congr 1), rfl, ⟨by rw [hS2]; exact hq⟩, ⟨by simp only [ByteArray.size_append]; have := HSS.out; omega⟩, FR5, FB5⟩, by simp only [intOf]; omega⟩
          · have hce : ((k : Int) == ln) = false := by rw [beq_eq_false_iff_ne]; exact heq
            have hq := HNX.out [] (by rw [if_neg heq])
            clear HNX heq
            go_wp2_with (fail)
            try rw [HW.out]
            have hS2 : ((S ++ (⟨#[44]⟩ : ByteArray)) ++ tk).toList = S.toList ++ 44 :: (tk.toList ++ []) := by
              rw [toList_app, toList_app, show (⟨#[44]⟩ : ByteArray).toList = [44] by rw [Go.ByteArray.toList_eq]]
              simp
            exact ⟨⟨k + 1, (S ++ (⟨#[44]⟩ : ByteArray)) ++ tk, by omega, by omega, by first | rfl | (congr 1), rfl, ⟨by rw [hS2]; exact hq⟩, ⟨by simp only [ByteArray.size_append]; have := HSS.out; omega⟩, FR5, FB5⟩, by simp only [intOf]; omega⟩
        · obtain rfl : k = l0_0.length := by omega
          have hfin := HS.out
          rw [List.drop_length, show rtx ln l0_0.length [] = [] from rfl, List.append_nil] at hfin
          have HF := Aside0.mk (S_eq hfin)
          clear hfin HS
          go_wp2_with (fail)
          go_ret
          exact ⟨by rw [HF.out, HR.out]; rfl, FB.out⟩
end Go.Proofs.YtpmieapgbdbabaaDoor.QAll
end

section
/- Walks, written by a program of this session (wip/pp): a Go function comes to what the Lean function beside it tells. -/
namespace Go.Proofs.YtpmieapgbdbabaaDoor.QAll
open Go.RowKit Go.Proofs.YtpmieapgbdbabaaDoorW.PrintWords Go.Proofs.YtpmieapgbdbabaaDoorW.PrintLast Go.Proofs.YtpmieapgbdbabaaDoorW.PrintMore
attribute [local go_sem] max2_int min2_int max_two min_two max_three min_three max_four min_four
set_option linter.unusedVariables false
set_option linter.unusedSimpArgs false

def squelchref04_Get.l0 : Nat → ByteArray → Int → ByteArray → Int → Option (ByteArray × Int × Bool × Bool × Bool)
 | 0, _, _, _, _ => none
 | k + 1, x0, x7, x287000, x287001 => if x7 < 6 then (if 0 ≤ x7 then (if x7 < (x0.size : Int) then (if (bt x0 x7) = 64 then (squelchref04_Get.l0 k x0 (wrap64 (x7 + 1)) x287000 x287001) else ((some (([(Int.tdiv (bt x0 x7) 2) % 256] : List Int) : List Int)).bind fun y287 => (if x287000.size + (strOfNums y287).size ≤ 9223372036854775807 then (squelchref04_Get.l0 k x0 (wrap64 (x7 + 1)) (x287000 ++ (strOfNums y287)) x287001) else (none)))) else (none)) else (none)) else (if 6 < (x0.size : Int) then ((squelchref04_Right.f k x287000 x287001).bind fun t290 => (if t290 = true then ((squelchref04_Put.f k x287000 x287001 (decide ((bt x0 6) ≥ 128)) ((Int.tmod (bt x0 6) 2) == 1)).bind fun t291 => (if t291.toList = x0.toList then (some (x287000, x287001, decide ((bt x0 6) ≥ 128), ((Int.tmod (bt x0 6) 2) == 1), true)) else (some ((⟨#[]⟩ : ByteArray), 0, false, false, false)))) else (some ((⟨#[]⟩ : ByteArray), 0, false, false, false)))) else (none))
def squelchref04_Get.f (k : Nat) (a0 : ByteArray) : Option (ByteArray × Int × Bool × Bool × Bool) := if (a0.size : Int) = 7 then (if 6 < (a0.size : Int) then (squelchref04_Get.l0 k a0 0 (⟨#[]⟩ : ByteArray) (Int.tmod (wrap64 (Int.tdiv (wrap64 (bt a0 6)) 2)) 16)) else (none)) else (some ((⟨#[]⟩ : ByteArray), 0, false, false, false))
end Go.Proofs.YtpmieapgbdbabaaDoor.QAll
end

section
/- A call's seven bytes, as the reference says them, and the call that is read of seven bytes; over plain strings and numbers. -/
set_option linter.unusedVariables false
namespace Go.Proofs.YtpmieapgbdbabaaDoor.Pure
open Go.RowKit Go.Proofs.YtpmieapgbdbabaaDoor.QAll Go.Proofs.YtpmieapgbdbabaaDoorW.PrintWords Go.Proofs.YtpmieapgbdbabaaDoorW.PrintLast

def pAt (s : ByteArray) (i j : Nat) : Int := if j < i then bt s (j : Int) * 2 else 64
def pRow (s : ByteArray) (i : Nat) (e : Int) : List Int := [pAt s i 0, pAt s i 1, pAt s i 2, pAt s i 3, pAt s i 4, pAt s i 5, e]
theorem pRow_set (s : ByteArray) (i : Nat) (hi : i < 6) (e x : Int) (hx : x = bt s (i : Int) * 2) : (pRow s i e).set i x = pRow s (i + 1) e := by
  have h : i = 0 ∨ i = 1 ∨ i = 2 ∨ i = 3 ∨ i = 4 ∨ i = 5 := by omega
  rcases h with rfl | rfl | rfl | rfl | rfl | rfl <;> subst hx <;> simp [pRow, pAt]
theorem put_end (m l : Bool) (n : Int) (h0 : 0 ≤ n) (h1 : n ≤ 15) : ∀ k x1 : Bool, k = m → x1 = l →
    (if m = true then (if l = true then ((96 + 2 * n + 128) % 256 + 1) % 256 else (96 + 2 * n + 128) % 256) else (if l = true then (96 + 2 * n + 1) % 256 else 96 + 2 * n)) = putEnd n m l := by
  intro _ _ _ _
  unfold putEnd
  cases m <;> cases l <;> simp <;> omega
theorem ref_put_l (s : ByteArray) (n : Int) (hr : rightB s n = true) (m l : Bool) (e : Int) (he : e = 96 + 2 * n) : ∀ (d i k : Nat), s.size - i ≤ d → d + 1 ≤ k → i ≤ s.size →
    squelchref04_Put.l0 k m l (pRow s i e) (i : Int) s n = some (strOfNums (pRow s s.size (putEnd n m l)))
  | d, i, 0, _, hk, _ => absurd hk (by omega)
  | d, i, k + 1, hd, hk, hi => by
    have hl := right_lens hr
    rw [squelchref04_Put.l0]
    by_cases h : i < s.size
    · obtain ⟨d', rfl⟩ : ∃ d', d = d' + 1 := ⟨d - 1, by omega⟩
      have hb := lets_le hr i h
      rw [if_pos (by omega), if_pos (by omega), if_pos (by simp [pRow]; omega), wrap_succ i (by omega), show ((i : Int)).toNat = i from by omega, pRow_set s i (by omega) e _ (by omega)]
      exact ref_put_l s n hr m l e he d' (i + 1) k (by omega) (by omega) (by omega)
    · obtain rfl : i = s.size := by omega
      rw [if_neg (by omega)]
      subst he
      have hlen : (6 : Int) < ((pRow s s.size (96 + 2 * n)).length : Int) := by simp [pRow]
      have hlast : ∀ x y : Int, (pRow s s.size x).set (6 : Int).toNat y = pRow s s.size y := fun x y => by simp [pRow]
      have hrd : ∀ x : Int, rd (pRow s s.size x) 6 = x := fun x => by
        unfold rd; simp [pRow]
      have hp := put_end m l n hl.2.2.1 hl.2.2.2 m l rfl rfl
      cases m <;> cases l <;> simp only [Bool.false_eq_true, if_true, if_false, Option.bind_some, hlen, hlast, hrd] at hp ⊢ <;> first | rw [← hp] | skip
theorem ref_put (s : ByteArray) (n : Int) (hr : rightB s n = true) (m l : Bool) (k : Nat) (hk : 10 ≤ k) : squelchref04_Put.f k s n m l = some (strOfNums (putL s n m l)) := by
  have hl := right_lens hr
  unfold squelchref04_Put.f
  have h := ref_put_l s n hr m l (96 + 2 * n) rfl 6 0 k (by omega) (by omega) (by omega)
  have e1 : (wrap64 (96 + (wrap64 (2 * n)))) % 256 = 96 + 2 * n := by unfold wrap64; omega
  rw [e1]
  have e2 : pRow s 0 (96 + 2 * n) = [64, 64, 64, 64, 64, 64, 96 + 2 * n] := by simp [pRow, pAt]
  rw [e2] at h
  rw [show ((0 : Nat) : Int) = 0 from rfl] at h
  rw [h]
  congr 2

theorem strOf_list (xs : List Int) : (strOfNums xs).toList = xs.map fun n => UInt8.ofNat n.toNat := by
  rw [Go.ByteArray.toList_eq]; rfl
theorem strOf_size (xs : List Int) : (strOfNums xs).size = xs.length := by rw [← len_eq, strOf_list, List.length_map]
theorem bt_strOf (xs : List Int) (j : Nat) (hj : j < xs.length) (h : 0 ≤ xs[j] ∧ xs[j] ≤ 255) : bt (strOfNums xs) (j : Int) = xs[j] := by
  rw [bt_data _ j (by rw [strOf_size]; exact hj)]
  have : (strOfNums xs).data.toList[j]'(by simpa [strOfNums] using hj) = UInt8.ofNat (xs[j]).toNat := by simp [strOfNums]
  rw [this, UInt8.toNat_ofNat']
  omega
theorem put_bt (s : ByteArray) (n : Int) (m l : Bool) (hr : rightB s n = true) (j : Nat) (hj : j < 6) : bt (strOfNums (putL s n m l)) (j : Int) = putAt s j := by
  have hx : (putL s n m l)[j]'(by simp [putL]; omega) = putAt s j := by
    have h : j = 0 ∨ j = 1 ∨ j = 2 ∨ j = 3 ∨ j = 4 ∨ j = 5 := by omega
    rcases h with rfl | rfl | rfl | rfl | rfl | rfl <;> rfl
  have hp : 0 ≤ putAt s j ∧ putAt s j ≤ 255 := by
    unfold putAt
    split
    · rename_i h; have := lets_le hr j h; omega
    · omega
  rw [bt_strOf _ j (by simp [putL]; omega) (by rw [hx]; exact hp), hx]
theorem put_bt6 (s : ByteArray) (n : Int) (m l : Bool) (hr : rightB s n = true) : bt (strOfNums (putL s n m l)) 6 = putEnd n m l := by
  have h := right_lens hr
  have hp : 0 ≤ putEnd n m l ∧ putEnd n m l ≤ 255 := by unfold putEnd; cases m <;> cases l <;> simp <;> omega
  have := bt_strOf (putL s n m l) 6 (by simp [putL]) hp
  exact this
theorem get_base (s : ByteArray) (n : Int) (m l : Bool) (hr : rightB s n = true) : getBase (strOfNums (putL s n m l)) = s := by
  have hl := right_lens hr
  apply ba_eq
  unfold getBase
  rw [Go.ByteArray.toList_eq]
  show Lib.trimRightB _ 32 = _
  have hlist : (strOfNums (halfL (strOfNums (putL s n m l)) 6)).data.toList = s.toList ++ List.replicate (6 - s.size) 32 := by
    rw [← Go.ByteArray.toList_eq, strOf_list]
    unfold halfL
    rw [List.map_map]
    apply List.ext_getElem
    · simp [len_eq]; omega
    · intro j h1 h2
      have hj : j < 6 := by simpa using h1
      simp only [List.getElem_map, List.getElem_range, Function.comp]
      rw [put_bt s n m l hr j hj]
      unfold putAt
      by_cases h : j < s.size
      · have hb := lets_le hr j h
        rw [if_pos h, List.getElem_append_left (by rw [len_eq]; exact h)]
        have hbd := bt_data s j h
        have hd : (bt s (j : Int) * 2 / 2).toNat = (s.data.toList[j]'(by simpa using h)).toNat := by omega
        rw [hd]
        simp only [Go.ByteArray.toList_eq]
        simp
      · rw [if_neg h, List.getElem_append_right (by rw [len_eq]; omega), List.getElem_replicate]
        rfl
  rw [hlist, Lib.trimRightB_take _ 32 s.size (by simp [len_eq]) ?_ ?_, List.take_left' (len_eq s)]
  · intro j b hj hb
    rw [List.getElem?_append_right (by rw [len_eq]; exact hj)] at hb
    exact (List.mem_replicate.1 (List.mem_of_getElem? hb)).2
  · intro b h0 hb
    rw [List.getElem?_append_left (by rw [len_eq]; omega)] at hb
    have hb2 := lets_le hr (s.size - 1) (by omega)
    rw [bt_data s (s.size - 1) (by omega)] at hb2
    rw [Go.ByteArray.toList_eq, List.getElem?_eq_getElem (by simp; omega)] at hb
    rintro rfl
    have := Option.some.inj hb
    rw [this] at hb2
    simp at hb2
theorem end_parts (n : Int) (h0 : 0 ≤ n) (h1 : n ≤ 15) (m l : Bool) : putEnd n m l / 2 % 16 = n ∧ decide (128 ≤ putEnd n m l) = m ∧ decide (putEnd n m l % 2 = 1) = l := by
  unfold putEnd
  cases m <;> cases l <;> simp <;> omega
theorem get_put (s : ByteArray) (n : Int) (m l : Bool) (hr : rightB s n = true) : getS (strOfNums (putL s n m l)) = (s, n, m, l, 0) := by
  have hl := right_lens hr
  have hsz : (strOfNums (putL s n m l)).size = 7 := by rw [strOf_size]; rfl
  obtain ⟨e1, e2, e3⟩ := end_parts n hl.2.2.1 hl.2.2.2 m l
  unfold getS
  rw [if_neg (by omega), if_neg (by omega), put_bt6 s n m l hr, get_base s n m l hr, e1, e2, e3, if_pos ⟨hr, rfl⟩]
end Go.Proofs.YtpmieapgbdbabaaDoor.Pure
end

section
/- Walks, written by a program of this session (wip/pp): a Go function comes to what the Lean function beside it tells. -/
namespace Go.Proofs.YtpmieapgbdbabaaDoor.QAll
open Go.RowKit Go.Proofs.YtpmieapgbdbabaaDoorW.PrintWords Go.Proofs.YtpmieapgbdbabaaDoorW.PrintLast Go.Proofs.YtpmieapgbdbabaaDoorW.PrintMore
attribute [local go_sem] max2_int min2_int max_two min_two max_three min_three max_four min_four
set_option linter.unusedVariables false
set_option linter.unusedSimpArgs false

def squelchref05_Get.l0 : Nat → ByteArray → Int → List (S37) → Option ((List (S37)) × Int × Int)
 | 0, _, _, _ => none
 | k + 1, x0, x6, x296000 => if (wrap64 (x6 + 7)) > (x0.size : Int) then (some (([] : List (S37)), 0, 4)) else (if 0 ≤ x6 then (if x6 ≤ (wrap64 (x6 + 7)) then (if (wrap64 (x6 + 7)) ≤ (x0.size : Int) then ((squelchref04_Get.f k (x0.extract (x6 : Int).toNat ((wrap64 (x6 + 7)) : Int).toNat)).bind fun bt296 => (if bt296.2.2.2.2 = true then (if (x296000.length : Int) = 10 then (some (([] : List (S37)), 0, 11)) else (if x296000.length < 4398046511104 then ((some (x296000 ++ [(⟨(⟨bt296.1, bt296.2.1⟩ : S23), bt296.2.2.1⟩ : S37)] : List (S37))).bind fun y302 => (if bt296.2.2.2.1 = true then (if (y302.length : Int) = 1 then (some (([] : List (S37)), 0, 2)) else ((squelchref05_ordered.f k y302).bind fun t305 => (if t305 = true then (some (y302, wrap64 (x6 + 7), 0)) else (some (([] : List (S37)), 0, 11))))) else (squelchref05_Get.l0 k x0 (wrap64 (x6 + 7)) y302))) else (none))) else (some (([] : List (S37)), 0, 2)))) else (none)) else (none)) else (none))
def squelchref05_Get.f (k : Nat) (a0 : ByteArray) : Option ((List (S37)) × Int × Int) := squelchref05_Get.l0 k a0 0 ([] : List (S37))
end Go.Proofs.YtpmieapgbdbabaaDoor.QAll
end

section
/- What the reference of paths tells, over plain lists: the plain form of a path, whether two are alike, the order of the marks, the path of some bytes. -/
set_option linter.unusedVariables false
set_option linter.unusedSimpArgs false
namespace Go.Proofs.YtpmieapgbdbabaaDoor.Pure
open Go.RowKit Go.Proofs.YtpmieapgbdbabaaDoor.QAll Go.Proofs.YtpmieapgbdbabaaDoorW.PrintWords

def mk37 (d : S93) : S37 := ⟨d.f0, d.f1⟩
theorem w64 (x : Int) (h0 : 0 ≤ x) (h1 : x ≤ 4611686018427387904) : wrap64 x = x := by unfold wrap64; omega
theorem plain_at (l : List S93) (hl : l.length ≤ 1000000) : ∀ (d i k : Nat) (acc : List S37), l.length - i ≤ d → d + 1 ≤ k → i ≤ l.length → acc.length ≤ 2000000 + i →
    squelchlaw05_Plain.l0 k l (l.length : Int) (i : Int) acc = some (acc ++ (l.drop i).map mk37)
  | d, i, 0, _, _, hk, _, _ => absurd hk (by omega)
  | d, i, k + 1, acc, hd, hk, hi, ha => by
    rw [squelchlaw05_Plain.l0]
    by_cases h : i < l.length
    · obtain ⟨d', rfl⟩ : ∃ d', d = d' + 1 := ⟨d - 1, by omega⟩
      rw [if_pos (by omega), if_pos (by omega), if_pos (by omega), if_pos (by omega), show wrap64 ((i : Int) + 1) = ((i + 1 : Nat) : Int) by rw [w64 _ (by omega) (by omega)]; omega,
        plain_at l hl d' (i + 1) k _ (by omega) (by omega) (by omega) (by simp; omega), drop_T93 l i h]
      simp [mk37]
    · rw [if_neg (by omega), List.drop_eq_nil_of_le (by omega)]
      simp
theorem plain_f (a0 : ByteArray) (a1 : Int) (a2 : ByteArray) (a3 : Int) (a4 a5 : Bool) (l : List S93) (hl : l.length ≤ 1000000) (k : Nat) (hk : l.length + 1 ≤ k) :
    squelchlaw05_Plain.f k a0 a1 a2 a3 a4 a5 l = some ((⟨⟨a0, a1⟩, a4⟩ : S37) :: (⟨⟨a2, a3⟩, a5⟩ : S37) :: l.map mk37) := by
  unfold squelchlaw05_Plain.f
  have := plain_at l hl l.length 0 k [(⟨(⟨a0, a1⟩ : S23), a4⟩ : S37), (⟨(⟨a2, a3⟩ : S23), a5⟩ : S37)] (by omega) hk (by omega) (by simp)
  rw [List.drop_zero] at this
  exact this
theorem same_at (l : List S37) (hl : l.length ≤ 2000000) : ∀ (d i k : Nat), l.length - i ≤ d → d + 1 ≤ k → i ≤ l.length → squelchref05_Same.l0 k (i : Int) l l = some true
  | d, i, 0, _, hk, _ => absurd hk (by omega)
  | d, i, k + 1, hd, hk, hi => by
    rw [squelchref05_Same.l0]
    by_cases h : i < l.length
    · obtain ⟨d', rfl⟩ : ∃ d', d = d' + 1 := ⟨d - 1, by omega⟩
      rw [if_pos (by omega), if_pos (by omega), if_pos (by omega), show wrap64 ((i : Int) + 1) = ((i + 1 : Nat) : Int) by rw [w64 _ (by omega) (by omega)]; omega, if_neg (by simp)]
      exact same_at l hl d' (i + 1) k (by omega) (by omega) (by omega)
    · rw [if_neg (by omega)]
theorem same_f (l : List S37) (hl : l.length ≤ 2000000) (k : Nat) (hk : l.length + 1 ≤ k) : squelchref05_Same.f k l l = some true := by
  unfold squelchref05_Same.f
  rw [if_pos rfl]
  exact same_at l hl l.length 0 k (by omega) hk (by omega)
theorem rd37 (a b : S37) (D : List S93) (j : Nat) (hj : j < D.length) : rd_T37 (a :: b :: D.map mk37) ((j + 2 : Nat) : Int) = mk37 (rd_T93 D (j : Int)) := by
  unfold rd_T37 rd_T93
  rw [Int.toNat_natCast, Int.toNat_natCast, List.getD_eq_getElem?_getD, List.getD_eq_getElem?_getD]
  simp [hj]
theorem ordered_at37 (a b : S37) (D : List S93) (hl : D.length ≤ 1000000) : ∀ (d j k : Nat), D.length - (j + 1) ≤ d → d + 1 ≤ k → j < D.length →
    squelchref05_ordered.l0 k (a :: b :: D.map mk37) ((j + 3 : Nat) : Int) = some (ordFrom (rd_T93 D (j : Int)).f1 (D.drop (j + 1)))
  | d, j, 0, _, hk, _ => absurd hk (by omega)
  | d, j, k + 1, hd, hk, hj => by
    rw [squelchref05_ordered.l0]
    have hlen : ((a :: b :: D.map mk37).length : Int) = (D.length : Int) + 2 := by simp; omega
    rw [hlen]
    by_cases h : j + 1 < D.length
    · obtain ⟨d', rfl⟩ : ∃ d', d = d' + 1 := ⟨d - 1, by omega⟩
      have ih := ordered_at37 a b D hl d' (j + 1) k (by omega) (by omega) (by omega)
      rw [if_pos (by omega), if_pos (by omega), show wrap64 (((j + 3 : Nat) : Int) - 1) = ((j + 2 : Nat) : Int) by rw [w64 _ (by omega) (by omega)]; omega, show wrap64 (((j + 3 : Nat) : Int) + 1) = ((j + 1 + 3 : Nat) : Int) by rw [w64 _ (by omega) (by omega)]; omega,
        show ((j + 3 : Nat) : Int) = (((j + 1) + 2 : Nat) : Int) by omega, rd37 a b D (j + 1) (by omega), rd37 a b D j (by omega), ih, drop_T93 D (j + 1) h, ordFrom_cons]
      by_cases h1 : (rd_T93 D ((j + 1 : Nat) : Int)).f1 = true
      · rw [if_pos (by exact h1), if_pos (by omega), if_pos (by omega)]
        by_cases h2 : (rd_T93 D (j : Int)).f1 = true
        · rw [if_pos (by exact h2), h2, h1]; simp
        · rw [if_neg (by exact h2)]
          have h2' : (rd_T93 D (j : Int)).f1 = false := by simpa using h2
          rw [h2', h1]; rfl
      · rw [if_neg (by exact h1)]
        have h1' : (rd_T93 D ((j + 1 : Nat) : Int)).f1 = false := by simpa using h1
        rw [h1']; simp
    · rw [if_neg (by omega), List.drop_eq_nil_of_le (by omega)]
      rfl
theorem ordered_f37 (a b : S37) (D : List S93) (hl : D.length ≤ 1000000) (k : Nat) (hk : D.length + 1 ≤ k) : squelchref05_ordered.f k (a :: b :: D.map mk37) = some (ordFrom true D) := by
  unfold squelchref05_ordered.f
  cases D with
  | nil =>
    obtain ⟨k', rfl⟩ : ∃ k', k = k' + 1 := ⟨k - 1, by omega⟩
    rw [squelchref05_ordered.l0, if_neg (by simp)]
    rfl
  | cons x r =>
    have := ordered_at37 a b (x :: r) hl (x :: r).length 0 k (by omega) hk (by simp)
    rw [show (3 : Int) = ((0 + 3 : Nat) : Int) by rfl, this, ordFrom_cons]
    simp [rd_T93]
end Go.Proofs.YtpmieapgbdbabaaDoor.Pure
end

section
/- From a row's listed variables, and the world's shape, to what the walks ask of the package's variables; and the wrap of a row that hands on both. -/
set_option linter.unusedVariables false
namespace Go.Proofs.YtpmieapgbdbabaaDoor.QAll
open Go.RowKit Go.Lib

/-- The wrap of a row that lists variables, with the reach, the listed variables and the world's shape handed on. -/
theorem returns_laid_shaped {H : Type} {enc : TypeId × Value → H} {a : Assume} {C : Checked} {os : Os} {f : FuncId} {fn : Func} {s : ChangeSpec} {conds : List PathCond} {apart fresh handsOn again : Bool} {l : List (String × DataW Unit)}
    (own : ownKnob C.prog.godebug = none) (started : os.Started) (noInit : C.prog.inits.idxOf? f = none) (hfn : C.prog.funcs[f]? = some fn)
    (witness : ∃ (w : World) (tape : Tape) (i : Input), w.os = os ∧ (w.forCall tape i).Shaped C.prog ∧ i.vars = [] ∧ Input.okWide C.prog (w.forCall tape i) .any w.heap.size f i ∧
      ((s.pre enc C.prog fn conds apart (w.forCall tape i).memory i.args ∧ laidMetH C.prog l (w.forCall tape i).memory) ∧ sizedMet enc C.prog fn (OpenSpec.ofChange s) apart (w.forCall tape i).memory i.args) ∧ a.holds C.prog (lone (Frame.enter C.prog f i.args .normal) [] (w.forCall tape i)))
    (contract : ∀ (W : World) (base : Nat) (args : Array Value) (ds gs : List (DataW H)) (before : List MemPlace),
      (∀ (j : Nat) t v, fn.params[j]? = some t → args[j]? = some v → Value.okWide C.prog W .any base t v) →
      DataW.Whole enc C.prog fn.params.toList s.vars apart W args.toList ds gs before →
      conds.all (PathCond.test C.prog ⟨fn.params.toList, ds, s.plain.varTypes C.prog, gs⟩) = true →
      (DataW.weightsEach C.prog (fn.params.toList ++ s.plain.varTypes C.prog) (ds ++ gs)).all (· ≤ reachBytes) = true → laidMetH C.prog l W → W.ShapedOpen C.prog →
      Calls C.prog f args W fun e W' => ∃ v, e = .returned v ∧ s.post enc C.prog fn apart fresh handsOn again W args v W') :
    ReturnsInHanded a C os f .any (fun w args => (s.pre enc C.prog fn conds apart w args ∧ laidMetH C.prog l w) ∧ sizedMet enc C.prog fn (OpenSpec.ofChange s) apart w args) (s.post enc C.prog fn apart fresh handsOn again) := by
  refine returnsInHanded_of_calls own started noInit witness ?_
  intro w tape i _ hsh _ hok hpre hholds
  obtain ⟨_, _, _, fn', hfn', _, _, _, _, hval⟩ := hok
  have e : fn' = fn := Option.some.inj (hfn'.symm.trans hfn)
  subst e
  obtain ⟨⟨⟨ds, gs, before, hw, hc⟩, hx⟩, hz⟩ := hpre
  have hw' := DataW.Whole.of_heap (w' := w.forCall tape i) (by rfl) hw
  refine (contract (w.forCall tape i) w.heap.size i.args ds gs before hval hw' hc (hz.weights hw) (laidMetH.of_heap (by rfl) hx) hsh).mono fun e W' ⟨v, he, hp⟩ => ?_
  subst he
  exact ChangeSpec.post_blind hp
end Go.Proofs.YtpmieapgbdbabaaDoor.QAll
end

section
/- A slice that came in, laid open: its elements as a list, read as the walks read them. -/
set_option linter.unusedVariables false
namespace Go.Proofs.YtpmieapgbdbabaaDoor.QAll
open Go.ChangeShapes Go.WideShapes Go.Deep Go.Proofs.YtpmieapgbdbabaaDoorW.PrintWords
theorem list_of {α : Type} {Pr : Nat → α → Prop} : ∀ n : Nat, (∀ i, i < n → ∃ a, Pr i a) → ∃ l : List α, l.length = n ∧ ∀ i a, l[i]? = some a → Pr i a
  | 0, _ => ⟨[], rfl, fun i a h => by simp at h⟩
  | n + 1, h => by
    obtain ⟨l, hl, hp⟩ := list_of n (fun i hi => h i (by omega))
    obtain ⟨a, ha⟩ := h n (by omega)
    refine ⟨l ++ [a], by simp [hl], fun i b hb => ?_⟩
    by_cases hi : i < n
    · rw [List.getElem?_append_left (by omega)] at hb
      exact hp i b hb
    · by_cases he : i = n
      · subst he
        rw [← hl] at hb
        simp at hb
        subst hb
        exact ha
      · rw [List.getElem?_eq_none (by simp; omega)] at hb
        cases hb
theorem rows_of_trod {α H : Type} {enc : TypeId × Value → H} {P : Program} {w : World} {t e : TypeId} {fuel : Nat} {cs : List Value} {x : DataW H × List MemPlace} (d : Kd α) (ht : P.underlying t = some (.slice e)) (hC : P.cellsOf e = d.sz) (F : α → Prop)
    (hel : ∀ (n : Nat) (cs' : List Value) (y : DataW H × List MemPlace), DataW.trod enc P w 0 (fun _ => true) true n e cs' = some y → ∃ a, d.K w a cs' ∧ cs'.length = d.sz ∧ F a)
    (h : DataW.trod enc P w 0 (fun _ => true) true fuel t cs = some x) : ∃ (A : Option Addr) (c : Nat) (l : List α), cs = [.slice A l.length c] ∧ d.C w A l.length l ∧ l.length ≤ c ∧ ∀ a ∈ l, F a := by
  rcases open_slice ht h with ⟨rfl, _⟩ | ⟨a, len, cap, m, n, D, Pl, hcs, hb, hl, hm, hmm, hx, hi⟩
  · exact ⟨none, 0, [], rfl, Kd.C_nil d w, Nat.le_refl _, fun a h => by cases h⟩
  · have hml : len ≤ m := by rw [hmm]; simpa using hl
    obtain ⟨l, hll, hp⟩ := list_of (Pr := fun i b => F b ∧ ∃ c, c.length = d.sz ∧ d.K w b c ∧ ∀ j u, c[j]? = some u → w.cell? (a.add (i * d.sz + j)) = some u) len (fun i hil => by
      obtain ⟨cs', hc, ht'⟩ := hi i (by omega)
      obtain ⟨b, hK, hlen, hF⟩ := hel n cs' _ ht'
      obtain ⟨_, hcl, hat⟩ := World.cells?_some hc
      refine ⟨b, hF, cs', hlen, hK, fun j u hu => ?_⟩
      have hj : j < cs'.length := (List.getElem?_eq_some_iff.1 hu).1
      have := hat j (by omega)
      rw [hC] at this
      rw [← Go.Deep.add_add, this, hu])
    refine ⟨some a, cap, l, by rw [hcs, hll], ⟨rfl, ?_, fun _ => ⟨a, rfl, fun j p hjp => (hp j p hjp).2⟩⟩, by omega, fun b hb' => ?_⟩
    · have : maxLen = 9223372036854775807 := rfl
      omega
    · obtain ⟨i, hi', rfl⟩ := List.getElem_of_mem hb'
      exact (hp i _ (List.getElem?_eq_getElem hi')).1
end Go.Proofs.YtpmieapgbdbabaaDoor.QAll
end
