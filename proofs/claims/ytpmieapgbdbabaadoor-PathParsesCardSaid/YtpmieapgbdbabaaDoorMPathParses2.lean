/- Words, walks and plain laws that the row of the law PathParses rests on. -/
import Derived.Test.YtpmieapgbdbabaaDoorMPathParses0
import Derived.Test.YtpmieapgbdbabaaDoorMPathParses1
section
/- Walks, written by a program of this session (wip/pp): a Go function comes to what the Lean function beside it tells. -/
namespace Go.Proofs.YtpmieapgbdbabaaDoor.QAll
open Go.RowKit Go.Proofs.YtpmieapgbdbabaaDoorW.PrintWords Go.Proofs.YtpmieapgbdbabaaDoorW.PrintLast Go.Proofs.YtpmieapgbdbabaaDoorW.PrintMore
set_option linter.unusedVariables false
set_option linter.unusedSimpArgs false

mutual
def squelchref04_Parse.l0 : Nat → ByteArray → Int → ByteArray → Int → Option (ByteArray × Int × Bool)
 | 0, _, _, _, _ => none
 | k + 1, x0, x5, x426000, x426001 => if x5 < (x0.size : Int) then (if 0 ≤ x5 then (squelchref04_Parse.j1 k x0 x5 ((bt x0 x5) != 45) x426000 x426001) else (none)) else (squelchref04_Parse.j1 k x0 x5 false x426000 x426001)
def squelchref04_Parse.j1 : Nat → ByteArray → Int → Bool → ByteArray → Int → Option (ByteArray × Int × Bool)
 | 0, _, _, _, _, _ => none
 | k + 1, x0, x5, x19, x426000, x426001 => if x19 = true then (if 0 ≤ x5 then (if x5 < (x0.size : Int) then (if (bt x0 x5) ≥ 97 then (if (bt x0 x5) ≤ 122 then ((some (([((bt x0 x5) - 32) % 256] : List Int) : List Int)).bind fun y426 => (if x426000.size + (strOfNums y426).size ≤ 9223372036854775807 then (squelchref04_Parse.l0 k x0 (wrap64 (x5 + 1)) (x426000 ++ (strOfNums y426)) x426001) else (none))) else ((some (([bt x0 x5] : List Int) : List Int)).bind fun y429 => (if x426000.size + (strOfNums y429).size ≤ 9223372036854775807 then (squelchref04_Parse.l0 k x0 (wrap64 (x5 + 1)) (x426000 ++ (strOfNums y429)) x426001) else (none)))) else ((some (([bt x0 x5] : List Int) : List Int)).bind fun y432 => (if x426000.size + (strOfNums y432).size ≤ 9223372036854775807 then (squelchref04_Parse.l0 k x0 (wrap64 (x5 + 1)) (x426000 ++ (strOfNums y432)) x426001) else (none)))) else (none)) else (none)) else (if x5 < (x0.size : Int) then (squelchref04_Parse.l1 k x0 x5 false 0 x426000 x426001) else ((squelchref04_Right.f k x426000 x426001).bind fun t437 => (if t437 = true then (some (x426000, x426001, true)) else (some ((⟨#[]⟩ : ByteArray), 0, false)))))
def squelchref04_Parse.l1 : Nat → ByteArray → Int → Bool → Int → ByteArray → Int → Option (ByteArray × Int × Bool)
 | 0, _, _, _, _, _, _ => none
 | k + 1, x0, x5, x7, x8, x426000, x426001 => if x8 ≤ 15 then ((squelchref04_Digits.f x8).bind fun t435 => (if 0 ≤ (wrap64 (x5 + 1)) then (if (wrap64 (x5 + 1)) ≤ (x0.size : Int) then (if t435.toList = (x0.extract ((wrap64 (x5 + 1)) : Int).toNat x0.size).toList then (squelchref04_Parse.l1 k x0 x5 true (wrap64 (x8 + 1)) x426000 x8) else (squelchref04_Parse.l1 k x0 x5 x7 (wrap64 (x8 + 1)) x426000 x426001)) else (none)) else (none))) else (if x7 = true then ((squelchref04_Right.f k x426000 x426001).bind fun t436 => (if t436 = true then (some (x426000, x426001, true)) else (some ((⟨#[]⟩ : ByteArray), 0, false)))) else (some ((⟨#[]⟩ : ByteArray), 0, false)))
end
def squelchref04_Parse.f (k : Nat) (a0 : ByteArray) : Option (ByteArray × Int × Bool) := squelchref04_Parse.l0 k a0 0 (⟨#[]⟩ : ByteArray) 0
set_option maxHeartbeats 8000000 in
set_option maxRecDepth 100000 in
theorem squelchref04_Parse.calls (k : Nat) (a0 : ByteArray) (r1 : ByteArray) (r2 : Int) (r3 : Bool) (w : World) (h : squelchref04_Parse.f k a0 = some (r1, r2, r3)) :
  Calls Tryd.prog 44 #[.string a0] w fun e w' => e = .returned (.tuple #[.agg #[.string r1, .int .i64 r2], .bool r3]) ∧ Below w.heap.size w w' := by
 have hu23 := Tryd.underlying23
 have HB := Aside0.mk (Below.refl w.heap.size w)
 have H : (squelchref04_Parse.l0 k a0 0 (⟨#[]⟩ : ByteArray) 0) = some (r1, r2, r3) := h
 clear h
 have H' := Aside0.mk H
 clear H
 go_enter Tryd.func44, Tryd.ntmps44
 go_wp2_with (first | ((with_reducible refine gate_dst (N := 2) rfl ?_); refine box_event ?hg (N := 2) ?hd (cs := #[.string (⟨#[]⟩ : ByteArray), .int .i64 0]) (t := 23) ?hr ?_; (case hd => rfl); (case hg => rfl); (case hr => first | (go_simp; done) | (go_simp; rfl)); intro gb424 hg w2 hbox hb; have n0_ := Aside0.mk (below_step (by repeat (first | (with_reducible first | exact HB.out | apply below_alloc | apply pw_below_drewN | apply below_drew1) | exact HB.out)) hb); have n1_ := Aside0.mk (hbox); have n2_ := Aside0.mk ((by rw [hg]; exact (below_size (by repeat (first | (with_reducible first | exact HB.out | apply below_alloc | apply pw_below_drewN | apply below_drew1) | exact HB.out))) : w.heap.size ≤ gb424)); have n3_ := Aside0.mk ((by rw [hg]; exact (below_size (by repeat (first | (with_reducible first | exact HB.out | apply below_alloc | apply pw_below_drewN | apply below_drew1) | exact HB.out))) : w.heap.size ≤ gb424)); clear HB; have HB := n0_; have BK424 := n1_; have GW424 := n2_; have GE424 := n3_; clear n0_ n1_ n2_ n3_; clear hb hbox hg) | ((with_reducible refine gate_dst (N := 4) rfl ?_); refine box_event ?hg (N := 4) ?hd (cs := #[.string (⟨#[]⟩ : ByteArray), .int .i64 0]) (t := 23) ?hr ?_; (case hd => rfl); (case hg => rfl); (case hr => first | (go_simp; done) | (go_simp; rfl)); intro gb425 hg w3 hbox hb; have n0_ := Aside0.mk (blk_below (g := gb424) (o := .cells #[.string (⟨#[]⟩ : ByteArray), .int .i64 0] 23 (0, 0)) (by (with_reducible repeat (first | refine blk_drewN ?_ _ | refine blk_drew ?_ | refine blk_alloc ?_ _)); exact BK424.out) hb); have n1_ := Aside0.mk (below_step (by repeat (first | (with_reducible first | exact HB.out | apply below_alloc | apply pw_below_drewN | apply below_drew1 | refine below_set ?_ GE424.out) | exact HB.out)) hb); have n2_ := Aside0.mk (hbox); have n3_ := Aside0.mk ((by rw [hg]; exact (below_size (by repeat (first | (with_reducible first | exact HB.out | apply below_alloc | apply pw_below_drewN | apply below_drew1 | refine below_set ?_ GE424.out) | exact HB.out))) : w.heap.size ≤ gb425)); have n4_ := Aside0.mk ((by rw [hg]; exact (below_size (by repeat (first | (with_reducible first | exact HB.out | apply below_alloc | apply pw_below_drewN | apply below_drew1 | refine below_set ?_ GE424.out) | exact HB.out))) : w.heap.size ≤ gb425)); have n5_ := Aside0.mk ((by rw [hg]; exact Nat.ne_of_lt (blk_lt (g := gb424) (o := .cells #[.string (⟨#[]⟩ : ByteArray), .int .i64 0] 23 (0, 0)) (by (with_reducible repeat (first | refine blk_drewN ?_ _ | refine blk_drew ?_ | refine blk_alloc ?_ _)); exact BK424.out)) : gb424 ≠ gb425)); have n6_ := Aside0.mk ((by rw [hg]; exact Nat.ne_of_gt (blk_lt (g := gb424) (o := .cells #[.string (⟨#[]⟩ : ByteArray), .int .i64 0] 23 (0, 0)) (by (with_reducible repeat (first | refine blk_drewN ?_ _ | refine blk_drew ?_ | refine blk_alloc ?_ _)); exact BK424.out)) : gb425 ≠ gb424)); clear BK424; clear HB; have BK424 := n0_; have HB := n1_; have BK425 := n2_; have GW425 := n3_; have GE425 := n4_; have NB424_425 := n5_; have NB425_424 := n6_; clear n0_ n1_ n2_ n3_ n4_ n5_ n6_; clear hb hbox hg; have hnb4 := NB425_424.out; have hnc4 := NB424_425.out; have hcz5_0 : w3.cell? ⟨gb425, 0, none⟩ = some (.string (⟨#[]⟩ : ByteArray)) := (blk_cell BK425.out 0).trans rfl; have hcz5_1 : w3.cell? ⟨gb425, 1, none⟩ = some (.int .i64 0) := (blk_cell BK425.out 1).trans rfl; have hfz5_0 := blk_frozen BK425.out 0; have hfz5_1 := blk_frozen BK425.out 1))
 repeat (go_quiet (first | ((with_reducible refine gate_dst (N := 2) rfl ?_); refine box_event ?hg (N := 2) ?hd (cs := #[.string (⟨#[]⟩ : ByteArray), .int .i64 0]) (t := 23) ?hr ?_; (case hd => rfl); (case hg => rfl); (case hr => first | (go_simp; done) | (go_simp; rfl)); intro gb424 hg w2 hbox hb; have n0_ := Aside0.mk (below_step (by repeat (first | (with_reducible first | exact HB.out | apply below_alloc | apply pw_below_drewN | apply below_drew1) | exact HB.out)) hb); have n1_ := Aside0.mk (hbox); have n2_ := Aside0.mk ((by rw [hg]; exact (below_size (by repeat (first | (with_reducible first | exact HB.out | apply below_alloc | apply pw_below_drewN | apply below_drew1) | exact HB.out))) : w.heap.size ≤ gb424)); have n3_ := Aside0.mk ((by rw [hg]; exact (below_size (by repeat (first | (with_reducible first | exact HB.out | apply below_alloc | apply pw_below_drewN | apply below_drew1) | exact HB.out))) : w.heap.size ≤ gb424)); clear HB; have HB := n0_; have BK424 := n1_; have GW424 := n2_; have GE424 := n3_; clear n0_ n1_ n2_ n3_; clear hb hbox hg) | ((with_reducible refine gate_dst (N := 4) rfl ?_); refine box_event ?hg (N := 4) ?hd (cs := #[.string (⟨#[]⟩ : ByteArray), .int .i64 0]) (t := 23) ?hr ?_; (case hd => rfl); (case hg => rfl); (case hr => first | (go_simp; done) | (go_simp; rfl)); intro gb425 hg w3 hbox hb; have n0_ := Aside0.mk (blk_below (g := gb424) (o := .cells #[.string (⟨#[]⟩ : ByteArray), .int .i64 0] 23 (0, 0)) (by (with_reducible repeat (first | refine blk_drewN ?_ _ | refine blk_drew ?_ | refine blk_alloc ?_ _)); exact BK424.out) hb); have n1_ := Aside0.mk (below_step (by repeat (first | (with_reducible first | exact HB.out | apply below_alloc | apply pw_below_drewN | apply below_drew1 | refine below_set ?_ GE424.out) | exact HB.out)) hb); have n2_ := Aside0.mk (hbox); have n3_ := Aside0.mk ((by rw [hg]; exact (below_size (by repeat (first | (with_reducible first | exact HB.out | apply below_alloc | apply pw_below_drewN | apply below_drew1 | refine below_set ?_ GE424.out) | exact HB.out))) : w.heap.size ≤ gb425)); have n4_ := Aside0.mk ((by rw [hg]; exact (below_size (by repeat (first | (with_reducible first | exact HB.out | apply below_alloc | apply pw_below_drewN | apply below_drew1 | refine below_set ?_ GE424.out) | exact HB.out))) : w.heap.size ≤ gb425)); have n5_ := Aside0.mk ((by rw [hg]; exact Nat.ne_of_lt (blk_lt (g := gb424) (o := .cells #[.string (⟨#[]⟩ : ByteArray), .int .i64 0] 23 (0, 0)) (by (with_reducible repeat (first | refine blk_drewN ?_ _ | refine blk_drew ?_ | refine blk_alloc ?_ _)); exact BK424.out)) : gb424 ≠ gb425)); have n6_ := Aside0.mk ((by rw [hg]; exact Nat.ne_of_gt (blk_lt (g := gb424) (o := .cells #[.string (⟨#[]⟩ : ByteArray), .int .i64 0] 23 (0, 0)) (by (with_reducible repeat (first | refine blk_drewN ?_ _ | refine blk_drew ?_ | refine blk_alloc ?_ _)); exact BK424.out)) : gb425 ≠ gb424)); clear BK424; clear HB; have BK424 := n0_; have HB := n1_; have BK425 := n2_; have GW425 := n3_; have GE425 := n4_; have NB424_425 := n5_; have NB425_424 := n6_; clear n0_ n1_ n2_ n3_ n4_ n5_ n6_; clear hb hbox hg; have hnb4 := NB425_424.out; have hnc4 := NB424_425.out; have hcz5_0 : w3.cell? ⟨gb425, 0, none⟩ = some (.string (⟨#[]⟩ : ByteArray)) := (blk_cell BK425.out 0).trans rfl; have hcz5_1 : w3.cell? ⟨gb425, 1, none⟩ = some (.int .i64 0) := (blk_cell BK425.out 1).trans rfl; have hfz5_0 := blk_frozen BK425.out 0; have hfz5_1 := blk_frozen BK425.out 1)); try go_wp2_with (first | ((with_reducible refine gate_dst (N := 2) rfl ?_); refine box_event ?hg (N := 2) ?hd (cs := #[.string (⟨#[]⟩ : ByteArray), .int .i64 0]) (t := 23) ?hr ?_; (case hd => rfl); (case hg => rfl); (case hr => first | (go_simp; done) | (go_simp; rfl)); intro gb424 hg w2 hbox hb; have n0_ := Aside0.mk (below_step (by repeat (first | (with_reducible first | exact HB.out | apply below_alloc | apply pw_below_drewN | apply below_drew1) | exact HB.out)) hb); have n1_ := Aside0.mk (hbox); have n2_ := Aside0.mk ((by rw [hg]; exact (below_size (by repeat (first | (with_reducible first | exact HB.out | apply below_alloc | apply pw_below_drewN | apply below_drew1) | exact HB.out))) : w.heap.size ≤ gb424)); have n3_ := Aside0.mk ((by rw [hg]; exact (below_size (by repeat (first | (with_reducible first | exact HB.out | apply below_alloc | apply pw_below_drewN | apply below_drew1) | exact HB.out))) : w.heap.size ≤ gb424)); clear HB; have HB := n0_; have BK424 := n1_; have GW424 := n2_; have GE424 := n3_; clear n0_ n1_ n2_ n3_; clear hb hbox hg) | ((with_reducible refine gate_dst (N := 4) rfl ?_); refine box_event ?hg (N := 4) ?hd (cs := #[.string (⟨#[]⟩ : ByteArray), .int .i64 0]) (t := 23) ?hr ?_; (case hd => rfl); (case hg => rfl); (case hr => first | (go_simp; done) | (go_simp; rfl)); intro gb425 hg w3 hbox hb; have n0_ := Aside0.mk (blk_below (g := gb424) (o := .cells #[.string (⟨#[]⟩ : ByteArray), .int .i64 0] 23 (0, 0)) (by (with_reducible repeat (first | refine blk_drewN ?_ _ | refine blk_drew ?_ | refine blk_alloc ?_ _)); exact BK424.out) hb); have n1_ := Aside0.mk (below_step (by repeat (first | (with_reducible first | exact HB.out | apply below_alloc | apply pw_below_drewN | apply below_drew1 | refine below_set ?_ GE424.out) | exact HB.out)) hb); have n2_ := Aside0.mk (hbox); have n3_ := Aside0.mk ((by rw [hg]; exact (below_size (by repeat (first | (with_reducible first | exact HB.out | apply below_alloc | apply pw_below_drewN | apply below_drew1 | refine below_set ?_ GE424.out) | exact HB.out))) : w.heap.size ≤ gb425)); have n4_ := Aside0.mk ((by rw [hg]; exact (below_size (by repeat (first | (with_reducible first | exact HB.out | apply below_alloc | apply pw_below_drewN | apply below_drew1 | refine below_set ?_ GE424.out) | exact HB.out))) : w.heap.size ≤ gb425)); have n5_ := Aside0.mk ((by rw [hg]; exact Nat.ne_of_lt (blk_lt (g := gb424) (o := .cells #[.string (⟨#[]⟩ : ByteArray), .int .i64 0] 23 (0, 0)) (by (with_reducible repeat (first | refine blk_drewN ?_ _ | refine blk_drew ?_ | refine blk_alloc ?_ _)); exact BK424.out)) : gb424 ≠ gb425)); have n6_ := Aside0.mk ((by rw [hg]; exact Nat.ne_of_gt (blk_lt (g := gb424) (o := .cells #[.string (⟨#[]⟩ : ByteArray), .int .i64 0] 23 (0, 0)) (by (with_reducible repeat (first | refine blk_drewN ?_ _ | refine blk_drew ?_ | refine blk_alloc ?_ _)); exact BK424.out)) : gb425 ≠ gb424)); clear BK424; clear HB; have BK424 := n0_; have HB := n1_; have BK425 := n2_; have GW425 := n3_; have GE425 := n4_; have NB424_425 := n5_; have NB425_424 := n6_; clear n0_ n1_ n2_ n3_ n4_ n5_ n6_; clear hb hbox hg; have hnb4 := NB425_424.out; have hnc4 := NB424_425.out; have hcz5_0 : w3.cell? ⟨gb425, 0, none⟩ = some (.string (⟨#[]⟩ : ByteArray)) := (blk_cell BK425.out 0).trans rfl; have hcz5_1 : w3.cell? ⟨gb425, 1, none⟩ = some (.int .i64 0) := (blk_cell BK425.out 1).trans rfl; have hfz5_0 := blk_frozen BK425.out 0; have hfz5_1 := blk_frozen BK425.out 1)))
 go_loopg [5] k (fun kq v5 w' => ∃ (x5_1 : Int) (x426000_1 : ByteArray), v5 = .int .i64 x5_1 ∧ Aside0 (squelchref04_Parse.l0 kq a0 x5_1 x426000_1 0 = some (r1, r2, r3)) ∧ Aside0 (kq ≤ k) ∧ Aside0 (w'.heap[gb424]? = some (.cells #[.string (⟨#[]⟩ : ByteArray), .int .i64 0] 23 (0, 0))) ∧ Aside0 (w'.heap[gb425]? = some (.cells #[.string x426000_1, .int .i64 0] 23 (0, 0))) ∧ Aside0 (Below w.heap.size w w'))
 case atStart => exact ⟨(0), ((⟨#[]⟩ : ByteArray)), (by first | rfl | (simp; done) | (simp [*]; done) | (simp; exact (fun l : List UInt8 => (by cases l <;> rfl : l.isEmpty = !(l != []))) _)), H', ⟨Nat.le_refl _⟩, ⟨by (with_reducible repeat (first | refine blk_drewN ?_ _ | refine blk_drew ?_ | refine blk_alloc ?_ _)); refine blk_far ?_ NB424_425.out _; (with_reducible repeat (first | refine blk_drewN ?_ _ | refine blk_drew ?_ | refine blk_alloc ?_ _)); refine blk_far ?_ NB424_425.out _; (with_reducible repeat (first | refine blk_drewN ?_ _ | refine blk_drew ?_ | refine blk_alloc ?_ _)); exact BK424.out⟩, ⟨by (with_reducible repeat (first | refine blk_drewN ?_ _ | refine blk_drew ?_ | refine blk_alloc ?_ _)); refine blk_put (cs := #[.string (⟨#[]⟩ : ByteArray), .int .i64 0]) ?_ 1 _ rfl; (with_reducible repeat (first | refine blk_drewN ?_ _ | refine blk_drew ?_ | refine blk_alloc ?_ _)); refine blk_put (cs := #[.string (⟨#[]⟩ : ByteArray), .int .i64 0]) ?_ 0 _ rfl; (with_reducible repeat (first | refine blk_drewN ?_ _ | refine blk_drew ?_ | refine blk_alloc ?_ _)); exact BK425.out⟩, ⟨by repeat (first | (with_reducible first | exact HB.out | apply below_alloc | apply pw_below_drewN | apply below_drew1 | refine below_set ?_ GE424.out | refine below_set ?_ GE425.out) | exact HB.out)⟩⟩
 case round =>
  clear H'
  try clear p2
  try clear c4
  try clear hcz5_0
  try clear hcz5_1
  try clear hfz5_0
  try clear hfz5_1
  obtain ⟨x5_1, x426000_1, rfl, HA, HK1, BK424, BK425, HB⟩ := hrel
  cases gk with
  | zero => exact absurd HA.out (by simp [squelchref04_Parse.l0])
  | succ k1 =>
   have H := HA.out
   clear HA
   simp only [squelchref04_Parse.l0] at H
   have HC6 := Aside0.mk H
   clear H
   go_upto_region 3 with (fail)
   repeat (go_quiet (fail); go_upto_region 3 with (fail))
   go_cut [19] (fun v19 wc => ∃ (kq : Nat) (x19_5 : Bool), v19 = .bool x19_5 ∧ Aside0 (squelchref04_Parse.j1 kq a0 x5_1 x19_5 x426000_1 0 = some (r1, r2, r3)) ∧ Aside0 (kq ≤ k1) ∧ Aside0 (wc.heap[gb424]? = some (.cells #[.string (⟨#[]⟩ : ByteArray), .int .i64 0] 23 (0, 0))) ∧ Aside0 (wc.heap[gb425]? = some (.cells #[.string x426000_1, .int .i64 0] 23 (0, 0))) ∧ Aside0 (Below w.heap.size w wc))
   case first =>
    have H := HC6.out
    clear HC6
    by_cases c7 : x5_1 < (a0.size : Int)
    ·rw [if_pos c7] at H
     have c7b0 : decide (x5_1 < (a0.size : Int)) = true := decide_eq_true c7
     clear c7
     (first | rw [c7b0] | (simp only [i64_w, i32_w]; rw [c7b0]) | skip)
     by_cases c8 : 0 ≤ x5_1
     ·rw [if_pos c8] at H
      have c8b0 : decide (0 ≤ x5_1) = true := decide_eq_true c8
      clear c8
      have H' := Aside0.mk H
      clear H
      have p9 : 0 ≤ (x5_1 : Int) := of_decide_eq_true (by first | (with_reducible assumption) | assumption)
      have q9 : x5_1 < (a0.size : Int) := of_decide_eq_true (by first | (with_reducible assumption) | assumption)
      have hx9 := bt_at a0 x5_1
      replace p9 := eq_true p9
      replace q9 := eq_true q9
      go_wp2
      repeat (go_quiet (fail); try go_wp2)
      go_meet
      case rel => exact ⟨_, (((bt a0 x5_1) != 45)), (by first | rfl | (simp; done) | (simp [*]; done) | (simp; exact (fun l : List UInt8 => (by cases l <;> rfl : l.isEmpty = !(l != []))) _)), H', ⟨by have := HK1.out; first | omega | exact Nat.le_refl _⟩, ⟨by (with_reducible repeat (first | refine blk_drewN ?_ _ | refine blk_drew ?_ | refine blk_alloc ?_ _)); exact BK424.out⟩, ⟨by (with_reducible repeat (first | refine blk_drewN ?_ _ | refine blk_drew ?_ | refine blk_alloc ?_ _)); exact BK425.out⟩, ⟨by repeat (first | (with_reducible first | exact HB.out | apply below_alloc | apply pw_below_drewN | apply below_drew1 | refine below_set ?_ GE424.out | refine below_set ?_ GE425.out) | exact HB.out)⟩⟩
     ·rw [if_neg c8] at H
      exact absurd H (by simp)
    ·rw [if_neg c7] at H
     have c7b0 : decide (x5_1 < (a0.size : Int)) = false := decide_eq_false c7
     clear c7
     (first | rw [c7b0] | (simp only [i64_w, i32_w]; rw [c7b0]) | skip)
     have H' := Aside0.mk H
     clear H
     go_wp2
     repeat (go_quiet (fail); try go_wp2)
     go_meet
     case rel => exact ⟨_, (false), (by first | rfl | (simp; done) | (simp [*]; done) | (simp; exact (fun l : List UInt8 => (by cases l <;> rfl : l.isEmpty = !(l != []))) _)), H', ⟨by have := HK1.out; first | omega | exact Nat.le_refl _⟩, ⟨by (with_reducible repeat (first | refine blk_drewN ?_ _ | refine blk_drew ?_ | refine blk_alloc ?_ _)); exact BK424.out⟩, ⟨by (with_reducible repeat (first | refine blk_drewN ?_ _ | refine blk_drew ?_ | refine blk_alloc ?_ _)); exact BK425.out⟩, ⟨by repeat (first | (with_reducible first | exact HB.out | apply below_alloc | apply pw_below_drewN | apply below_drew1 | refine below_set ?_ GE424.out | refine below_set ?_ GE425.out) | exact HB.out)⟩⟩
   case rest =>
    clear HC6
    try clear p2
    try clear c4
    try clear c7
    try clear c7b0
    try clear c8
    try clear c8b0
    try clear p9
    try clear q9
    try clear hx9
    try clear hcz5_0
    try clear hcz5_1
    try clear hfz5_0
    try clear hfz5_1
    try clear p2
    try clear p9
    try clear q9
    obtain ⟨kq, x19_5, rfl, HA, HJ5, BK424, BK425, HB⟩ := hcut
    cases kq with
    | zero => exact absurd HA.out (by simp [squelchref04_Parse.j1])
    | succ kj5 =>
     have H := HA.out
     clear HA
     simp only [squelchref04_Parse.j1] at H
     by_cases c10 : x19_5 = true
     ·subst c10
      have H1 : (if 0 ≤ x5_1 then (if x5_1 < (a0.size : Int) then (if (bt a0 x5_1) ≥ 97 then (if (bt a0 x5_1) ≤ 122 then ((some (([((bt a0 x5_1) - 32) % 256] : List Int) : List Int)).bind fun y426 => (if x426000_1.size + (strOfNums y426).size ≤ 9223372036854775807 then (squelchref04_Parse.l0 kj5 a0 (wrap64 (x5_1 + 1)) (x426000_1 ++ (strOfNums y426)) 0) else (none))) else ((some (([bt a0 x5_1] : List Int) : List Int)).bind fun y429 => (if x426000_1.size + (strOfNums y429).size ≤ 9223372036854775807 then (squelchref04_Parse.l0 kj5 a0 (wrap64 (x5_1 + 1)) (x426000_1 ++ (strOfNums y429)) 0) else (none)))) else ((some (([bt a0 x5_1] : List Int) : List Int)).bind fun y432 => (if x426000_1.size + (strOfNums y432).size ≤ 9223372036854775807 then (squelchref04_Parse.l0 kj5 a0 (wrap64 (x5_1 + 1)) (x426000_1 ++ (strOfNums y432)) 0) else (none)))) else (none)) else (none)) = some (r1, r2, r3) := by rw [if_pos rfl] at H; exact H
      clear H
      have H := H1
      clear H1
      by_cases c11 : 0 ≤ x5_1
      ·rw [if_pos c11] at H
       have c11b0 : decide (0 ≤ x5_1) = true := decide_eq_true c11
       clear c11
       by_cases c12 : x5_1 < (a0.size : Int)
       ·rw [if_pos c12] at H
        have c12b0 : decide (x5_1 < (a0.size : Int)) = true := decide_eq_true c12
        clear c12
        by_cases c14 : (bt a0 x5_1) ≥ 97
        ·rw [if_pos c14] at H
         have c14b0 : decide (97 ≤ (bt a0 x5_1)) = true := decide_eq_true c14
         clear c14
         by_cases c15 : (bt a0 x5_1) ≤ 122
         ·rw [if_pos c15] at H
          have c15b0 : decide ((bt a0 x5_1) ≤ 122) = true := decide_eq_true c15
          clear c15
          obtain ⟨y426, hy426⟩ : ∃ y_ : List Int, y_ = (([((bt a0 x5_1) - 32) % 256] : List Int)) := ⟨_, rfl⟩
          replace H : (if x426000_1.size + (strOfNums y426).size ≤ 9223372036854775807 then (squelchref04_Parse.l0 kj5 a0 (wrap64 (x5_1 + 1)) (x426000_1 ++ (strOfNums y426)) 0) else (none)) = some (r1, r2, r3) := by first | (rw [hy426]; with_reducible exact H) | (have H2_ := (Option.bind_some _ _).symm.trans H; rw [hy426]; with_reducible exact H2_) | (have H2_ := (Option.bind_some _ _).symm.trans H; with_reducible exact H2_) | with_reducible exact H | (rw [hy426]; exact H) | exact H
          have Ny426 := Aside0.mk hy426
          clear hy426
          by_cases c16 : x426000_1.size + (strOfNums y426).size ≤ 9223372036854775807
          ·rw [if_pos c16] at H
           have c16b0 := eq_true c16
           have c16b1 : decide (x426000_1.size + (strOfNums y426).size ≤ 9223372036854775807) = true := decide_eq_true c16
           try have c16b2 : (9223372036854775807 < x426000_1.size + (strOfNums y426).size) = False := eq_false (Nat.not_lt.2 c16)
           have H' := Aside0.mk H
           clear H
           have p13 : 0 ≤ (x5_1 : Int) := of_decide_eq_true (by first | (with_reducible assumption) | assumption)
           have q13 : x5_1 < (a0.size : Int) := of_decide_eq_true (by first | (with_reducible assumption) | assumption)
           have hx13 := bt_at a0 x5_1
           replace p13 := eq_true p13
           replace q13 := eq_true q13
           have hnb17 := NB425_424.out
           have hnc17 := NB424_425.out
           have hcz18_0 : wc.cell? ⟨gb425, 0, none⟩ = some (.string x426000_1) := (blk_cell BK425.out 0).trans rfl
           have hcz18_1 : wc.cell? ⟨gb425, 1, none⟩ = some (.int .i64 0) := (blk_cell BK425.out 1).trans rfl
           have hfz18_0 := blk_frozen BK425.out 0
           have hfz18_1 := blk_frozen BK425.out 1
           go_wp2_with (first | ((with_reducible refine gate_dst (N := 34) rfl ?_); refine Kd.R_lit (Kd.int .u8) _ 5 ?hg (N := 34) ?hd (xs := ([((bt a0 x5_1) - 32) % 256] : List Int)) (inner := [.int .u8 (((bt a0 x5_1) - 32) % 256)]) (ok := fun _ => True) (okp := fun _ => True) ?hr ?hp (fun _ hk => hk) trivial (Below.refl _ _) (Nat.le_refl _) (by simp) ?_; (case hd => rfl); (case hg => rfl); (case hr => first | (go_simp; done) | (go_simp; rfl)); (case hp => exact (Reps.one (show Kd.M (Kd.int .u8) _ _ _ (((bt a0 x5_1) - 32) % 256) [.int .u8 (((bt a0 x5_1) - 32) % 256)] from rfl) (Reps.none _ _))); intro v427 w19 ho20 hb hg_ hnew_; clear hg_ hnew_; (first | rw [← Ny426.out] at ho20 | (simp only [Int.reduceToNat] at ho20; rw [← Ny426.out] at ho20)); have n0_ := Aside0.mk (Kd.R_lower ho20 (below_size (by repeat (first | (with_reducible first | exact HB.out | apply below_alloc | apply pw_below_drewN | apply below_drew1 | refine below_set ?_ GE424.out | refine below_set ?_ GE425.out) | exact HB.out)))); have n1_ := Aside0.mk (blk_below (g := gb424) (o := .cells #[.string (⟨#[]⟩ : ByteArray), .int .i64 0] 23 (0, 0)) (by (with_reducible repeat (first | refine blk_drewN ?_ _ | refine blk_drew ?_ | refine blk_alloc ?_ _)); exact BK424.out) hb); have n2_ := Aside0.mk (blk_below (g := gb425) (o := .cells #[.string x426000_1, .int .i64 0] 23 (0, 0)) (by (with_reducible repeat (first | refine blk_drewN ?_ _ | refine blk_drew ?_ | refine blk_alloc ?_ _)); exact BK425.out) hb); have n3_ := Aside0.mk (below_step (by repeat (first | (with_reducible first | exact HB.out | apply below_alloc | apply pw_below_drewN | apply below_drew1 | refine below_set ?_ GE424.out | refine below_set ?_ GE425.out) | exact HB.out)) hb); clear BK424; clear BK425; clear HB; have HO428 := n0_; have BK424 := n1_; have BK425 := n2_; have HB := n3_; clear n0_ n1_ n2_ n3_; clear hb ho20; have hcv21 := own_string (P := Tryd.prog) Tryd.underlying104 Tryd.underlying5 Tryd.underlying9 (Kd.own_of_R HO428.out); have hcz22_0 : w19.cell? ⟨gb425, 0, none⟩ = some (.string x426000_1) := (blk_cell BK425.out 0).trans rfl; have hcz22_1 : w19.cell? ⟨gb425, 1, none⟩ = some (.int .i64 0) := (blk_cell BK425.out 1).trans rfl; have hfz22_0 := blk_frozen BK425.out 0; have hfz22_1 := blk_frozen BK425.out 1))
           repeat (go_quiet (first | ((with_reducible refine gate_dst (N := 34) rfl ?_); refine Kd.R_lit (Kd.int .u8) _ 5 ?hg (N := 34) ?hd (xs := ([((bt a0 x5_1) - 32) % 256] : List Int)) (inner := [.int .u8 (((bt a0 x5_1) - 32) % 256)]) (ok := fun _ => True) (okp := fun _ => True) ?hr ?hp (fun _ hk => hk) trivial (Below.refl _ _) (Nat.le_refl _) (by simp) ?_; (case hd => rfl); (case hg => rfl); (case hr => first | (go_simp; done) | (go_simp; rfl)); (case hp => exact (Reps.one (show Kd.M (Kd.int .u8) _ _ _ (((bt a0 x5_1) - 32) % 256) [.int .u8 (((bt a0 x5_1) - 32) % 256)] from rfl) (Reps.none _ _))); intro v427 w19 ho20 hb hg_ hnew_; clear hg_ hnew_; (first | rw [← Ny426.out] at ho20 | (simp only [Int.reduceToNat] at ho20; rw [← Ny426.out] at ho20)); have n0_ := Aside0.mk (Kd.R_lower ho20 (below_size (by repeat (first | (with_reducible first | exact HB.out | apply below_alloc | apply pw_below_drewN | apply below_drew1 | refine below_set ?_ GE424.out | refine below_set ?_ GE425.out) | exact HB.out)))); have n1_ := Aside0.mk (blk_below (g := gb424) (o := .cells #[.string (⟨#[]⟩ : ByteArray), .int .i64 0] 23 (0, 0)) (by (with_reducible repeat (first | refine blk_drewN ?_ _ | refine blk_drew ?_ | refine blk_alloc ?_ _)); exact BK424.out) hb); have n2_ := Aside0.mk (blk_below (g := gb425) (o := .cells #[.string x426000_1, .int .i64 0] 23 (0, 0)) (by (with_reducible repeat (first | refine blk_drewN ?_ _ | refine blk_drew ?_ | refine blk_alloc ?_ _)); exact BK425.out) hb); have n3_ := Aside0.mk (below_step (by repeat (first | (with_reducible first | exact HB.out | apply below_alloc | apply pw_below_drewN | apply below_drew1 | refine below_set ?_ GE424.out | refine below_set ?_ GE425.out) | exact HB.out)) hb); clear BK424; clear BK425; clear HB; have HO428 := n0_; have BK424 := n1_; have BK425 := n2_; have HB := n3_; clear n0_ n1_ n2_ n3_; clear hb ho20; have hcv21 := own_string (P := Tryd.prog) Tryd.underlying104 Tryd.underlying5 Tryd.underlying9 (Kd.own_of_R HO428.out); have hcz22_0 : w19.cell? ⟨gb425, 0, none⟩ = some (.string x426000_1) := (blk_cell BK425.out 0).trans rfl; have hcz22_1 : w19.cell? ⟨gb425, 1, none⟩ = some (.int .i64 0) := (blk_cell BK425.out 1).trans rfl; have hfz22_0 := blk_frozen BK425.out 0; have hfz22_1 := blk_frozen BK425.out 1)); try go_wp2_with (first | ((with_reducible refine gate_dst (N := 34) rfl ?_); refine Kd.R_lit (Kd.int .u8) _ 5 ?hg (N := 34) ?hd (xs := ([((bt a0 x5_1) - 32) % 256] : List Int)) (inner := [.int .u8 (((bt a0 x5_1) - 32) % 256)]) (ok := fun _ => True) (okp := fun _ => True) ?hr ?hp (fun _ hk => hk) trivial (Below.refl _ _) (Nat.le_refl _) (by simp) ?_; (case hd => rfl); (case hg => rfl); (case hr => first | (go_simp; done) | (go_simp; rfl)); (case hp => exact (Reps.one (show Kd.M (Kd.int .u8) _ _ _ (((bt a0 x5_1) - 32) % 256) [.int .u8 (((bt a0 x5_1) - 32) % 256)] from rfl) (Reps.none _ _))); intro v427 w19 ho20 hb hg_ hnew_; clear hg_ hnew_; (first | rw [← Ny426.out] at ho20 | (simp only [Int.reduceToNat] at ho20; rw [← Ny426.out] at ho20)); have n0_ := Aside0.mk (Kd.R_lower ho20 (below_size (by repeat (first | (with_reducible first | exact HB.out | apply below_alloc | apply pw_below_drewN | apply below_drew1 | refine below_set ?_ GE424.out | refine below_set ?_ GE425.out) | exact HB.out)))); have n1_ := Aside0.mk (blk_below (g := gb424) (o := .cells #[.string (⟨#[]⟩ : ByteArray), .int .i64 0] 23 (0, 0)) (by (with_reducible repeat (first | refine blk_drewN ?_ _ | refine blk_drew ?_ | refine blk_alloc ?_ _)); exact BK424.out) hb); have n2_ := Aside0.mk (blk_below (g := gb425) (o := .cells #[.string x426000_1, .int .i64 0] 23 (0, 0)) (by (with_reducible repeat (first | refine blk_drewN ?_ _ | refine blk_drew ?_ | refine blk_alloc ?_ _)); exact BK425.out) hb); have n3_ := Aside0.mk (below_step (by repeat (first | (with_reducible first | exact HB.out | apply below_alloc | apply pw_below_drewN | apply below_drew1 | refine below_set ?_ GE424.out | refine below_set ?_ GE425.out) | exact HB.out)) hb); clear BK424; clear BK425; clear HB; have HO428 := n0_; have BK424 := n1_; have BK425 := n2_; have HB := n3_; clear n0_ n1_ n2_ n3_; clear hb ho20; have hcv21 := own_string (P := Tryd.prog) Tryd.underlying104 Tryd.underlying5 Tryd.underlying9 (Kd.own_of_R HO428.out); have hcz22_0 : w19.cell? ⟨gb425, 0, none⟩ = some (.string x426000_1) := (blk_cell BK425.out 0).trans rfl; have hcz22_1 : w19.cell? ⟨gb425, 1, none⟩ = some (.int .i64 0) := (blk_cell BK425.out 1).trans rfl; have hfz22_0 := blk_frozen BK425.out 0; have hfz22_1 := blk_frozen BK425.out 1)))
           go_roundg kj5
           case measure => have := HK1.out; have := HJ5.out; omega
           case rel => exact ⟨(wrap64 (x5_1 + 1)), (x426000_1 ++ (strOfNums y426)), (by first | rfl | (simp; done) | (simp [*]; done) | (simp; exact (fun l : List UInt8 => (by cases l <;> rfl : l.isEmpty = !(l != []))) _)), H', ⟨by have := HK1.out; have := HJ5.out; omega⟩, ⟨by (with_reducible repeat (first | refine blk_drewN ?_ _ | refine blk_drew ?_ | refine blk_alloc ?_ _)); refine blk_far ?_ NB424_425.out _; (with_reducible repeat (first | refine blk_drewN ?_ _ | refine blk_drew ?_ | refine blk_alloc ?_ _)); exact BK424.out⟩, ⟨by (with_reducible repeat (first | refine blk_drewN ?_ _ | refine blk_drew ?_ | refine blk_alloc ?_ _)); refine blk_put (cs := #[.string x426000_1, .int .i64 0]) ?_ 0 _ rfl; (with_reducible repeat (first | refine blk_drewN ?_ _ | refine blk_drew ?_ | refine blk_alloc ?_ _)); exact BK425.out⟩, ⟨by repeat (first | (with_reducible first | exact HB.out | apply below_alloc | apply pw_below_drewN | apply below_drew1 | refine below_set ?_ GE424.out | refine below_set ?_ GE425.out) | exact HB.out)⟩⟩
          ·rw [if_neg c16] at H
           exact absurd H (by simp)
         ·rw [if_neg c15] at H
          have c15b0 : decide ((bt a0 x5_1) ≤ 122) = false := decide_eq_false c15
          clear c15
          obtain ⟨y429, hy429⟩ : ∃ y_ : List Int, y_ = (([bt a0 x5_1] : List Int)) := ⟨_, rfl⟩
          replace H : (if x426000_1.size + (strOfNums y429).size ≤ 9223372036854775807 then (squelchref04_Parse.l0 kj5 a0 (wrap64 (x5_1 + 1)) (x426000_1 ++ (strOfNums y429)) 0) else (none)) = some (r1, r2, r3) := by first | (rw [hy429]; with_reducible exact H) | (have H2_ := (Option.bind_some _ _).symm.trans H; rw [hy429]; with_reducible exact H2_) | (have H2_ := (Option.bind_some _ _).symm.trans H; with_reducible exact H2_) | with_reducible exact H | (rw [hy429]; exact H) | exact H
          have Ny429 := Aside0.mk hy429
          clear hy429
          by_cases c23 : x426000_1.size + (strOfNums y429).size ≤ 9223372036854775807
          ·rw [if_pos c23] at H
           have c23b0 := eq_true c23
           have c23b1 : decide (x426000_1.size + (strOfNums y429).size ≤ 9223372036854775807) = true := decide_eq_true c23
           try have c23b2 : (9223372036854775807 < x426000_1.size + (strOfNums y429).size) = False := eq_false (Nat.not_lt.2 c23)
           have H' := Aside0.mk H
           clear H
           have p13 : 0 ≤ (x5_1 : Int) := of_decide_eq_true (by first | (with_reducible assumption) | assumption)
           have q13 : x5_1 < (a0.size : Int) := of_decide_eq_true (by first | (with_reducible assumption) | assumption)
           have hx13 := bt_at a0 x5_1
           replace p13 := eq_true p13
           replace q13 := eq_true q13
           have hnb24 := NB425_424.out
           have hnc24 := NB424_425.out
           have hcz25_0 : wc.cell? ⟨gb425, 0, none⟩ = some (.string x426000_1) := (blk_cell BK425.out 0).trans rfl
           have hcz25_1 : wc.cell? ⟨gb425, 1, none⟩ = some (.int .i64 0) := (blk_cell BK425.out 1).trans rfl
           have hfz25_0 := blk_frozen BK425.out 0
           have hfz25_1 := blk_frozen BK425.out 1
           go_wp2_with (first | ((with_reducible refine gate_dst (N := 34) rfl ?_); refine Kd.R_lit (Kd.int .u8) _ 5 ?hg (N := 34) ?hd (xs := ([bt a0 x5_1] : List Int)) (inner := [.int .u8 (bt a0 x5_1)]) (ok := fun _ => True) (okp := fun _ => True) ?hr ?hp (fun _ hk => hk) trivial (Below.refl _ _) (Nat.le_refl _) (by simp) ?_; (case hd => rfl); (case hg => rfl); (case hr => first | (go_simp; done) | (go_simp; rfl)); (case hp => exact (Reps.one (show Kd.M (Kd.int .u8) _ _ _ (bt a0 x5_1) [.int .u8 (bt a0 x5_1)] from rfl) (Reps.none _ _))); intro v430 w26 ho27 hb hg_ hnew_; clear hg_ hnew_; (first | rw [← Ny429.out] at ho27 | (simp only [Int.reduceToNat] at ho27; rw [← Ny429.out] at ho27)); have n0_ := Aside0.mk (Kd.R_lower ho27 (below_size (by repeat (first | (with_reducible first | exact HB.out | apply below_alloc | apply pw_below_drewN | apply below_drew1 | refine below_set ?_ GE424.out | refine below_set ?_ GE425.out) | exact HB.out)))); have n1_ := Aside0.mk (blk_below (g := gb424) (o := .cells #[.string (⟨#[]⟩ : ByteArray), .int .i64 0] 23 (0, 0)) (by (with_reducible repeat (first | refine blk_drewN ?_ _ | refine blk_drew ?_ | refine blk_alloc ?_ _)); exact BK424.out) hb); have n2_ := Aside0.mk (blk_below (g := gb425) (o := .cells #[.string x426000_1, .int .i64 0] 23 (0, 0)) (by (with_reducible repeat (first | refine blk_drewN ?_ _ | refine blk_drew ?_ | refine blk_alloc ?_ _)); exact BK425.out) hb); have n3_ := Aside0.mk (below_step (by repeat (first | (with_reducible first | exact HB.out | apply below_alloc | apply pw_below_drewN | apply below_drew1 | refine below_set ?_ GE424.out | refine below_set ?_ GE425.out) | exact HB.out)) hb); clear BK424; clear BK425; clear HB; have HO431 := n0_; have BK424 := n1_; have BK425 := n2_; have HB := n3_; clear n0_ n1_ n2_ n3_; clear hb ho27; have hcv28 := own_string (P := Tryd.prog) Tryd.underlying104 Tryd.underlying5 Tryd.underlying9 (Kd.own_of_R HO431.out); have hcz29_0 : w26.cell? ⟨gb425, 0, none⟩ = some (.string x426000_1) := (blk_cell BK425.out 0).trans rfl; have hcz29_1 : w26.cell? ⟨gb425, 1, none⟩ = some (.int .i64 0) := (blk_cell BK425.out 1).trans rfl; have hfz29_0 := blk_frozen BK425.out 0; have hfz29_1 := blk_frozen BK425.out 1))
           repeat (go_quiet (first | ((with_reducible refine gate_dst (N := 34) rfl ?_); refine Kd.R_lit (Kd.int .u8) _ 5 ?hg (N := 34) ?hd (xs := ([bt a0 x5_1] : List Int)) (inner := [.int .u8 (bt a0 x5_1)]) (ok := fun _ => True) (okp := fun _ => True) ?hr ?hp (fun _ hk => hk) trivial (Below.refl _ _) (Nat.le_refl _) (by simp) ?_; (case hd => rfl); (case hg => rfl); (case hr => first | (go_simp; done) | (go_simp; rfl)); (case hp => exact (Reps.one (show Kd.M (Kd.int .u8) _ _ _ (bt a0 x5_1) [.int .u8 (bt a0 x5_1)] from rfl) (Reps.none _ _))); intro v430 w26 ho27 hb hg_ hnew_; clear hg_ hnew_; (first | rw [← Ny429.out] at ho27 | (simp only [Int.reduceToNat] at ho27; rw [← Ny429.out] at ho27)); have n0_ := Aside0.mk (Kd.R_lower ho27 (below_size (by repeat (first | (with_reducible first | exact HB.out | apply below_alloc | apply pw_below_drewN | apply below_drew1 | refine below_set ?_ GE424.out | refine below_set ?_ GE425.out) | exact HB.out)))); have n1_ := Aside0.mk (blk_below (g := gb424) (o := .cells #[.string (⟨#[]⟩ : ByteArray), .int .i64 0] 23 (0, 0)) (by (with_reducible repeat (first | refine blk_drewN ?_ _ | refine blk_drew ?_ | refine blk_alloc ?_ _)); exact BK424.out) hb); have n2_ := Aside0.mk (blk_below (g := gb425) (o := .cells #[.string x426000_1, .int .i64 0] 23 (0, 0)) (by (with_reducible repeat (first | refine blk_drewN ?_ _ | refine blk_drew ?_ | refine blk_alloc ?_ _)); exact BK425.out) hb); have n3_ := Aside0.mk (below_step (by repeat (first | (with_reducible first | exact HB.out | apply below_alloc | apply pw_below_drewN | apply below_drew1 | refine below_set ?_ GE424.out | refine below_set ?_ GE425.out) | exact HB.out)) hb); clear BK424; clear BK425; clear HB; have HO431 := n0_; have BK424 := n1_; have BK425 := n2_; have HB := n3_; clear n0_ n1_ n2_ n3_; clear hb ho27; have hcv28 := own_string (P := Tryd.prog) Tryd.underlying104 Tryd.underlying5 Tryd.underlying9 (Kd.own_of_R HO431.out); have hcz29_0 : w26.cell? ⟨gb425, 0, none⟩ = some (.string x426000_1) := (blk_cell BK425.out 0).trans rfl; have hcz29_1 : w26.cell? ⟨gb425, 1, none⟩ = some (.int .i64 0) := (blk_cell BK425.out 1).trans rfl; have hfz29_0 := blk_frozen BK425.out 0; have hfz29_1 := blk_frozen BK425.out 1)); try go_wp2_with (first | ((with_reducible refine gate_dst (N := 34) rfl ?_); refine Kd.R_lit (Kd.int .u8) _ 5 ?hg (N := 34) ?hd (xs := ([bt a0 x5_1] : List Int)) (inner := [.int .u8 (bt a0 x5_1)]) (ok := fun _ => True) (okp := fun _ => True) ?hr ?hp (fun _ hk => hk) trivial (Below.refl _ _) (Nat.le_refl _) (by simp) ?_; (case hd => rfl); (case hg => rfl); (case hr => first | (go_simp; done) | (go_simp; rfl)); (case hp => exact (Reps.one (show Kd.M (Kd.int .u8) _ _ _ (bt a0 x5_1) [.int .u8 (bt a0 x5_1)] from rfl) (Reps.none _ _))); intro v430 w26 ho27 hb hg_ hnew_; clear hg_ hnew_; (first | rw [← Ny429.out] at ho27 | (simp only [Int.reduceToNat] at ho27; rw [← Ny429.out] at ho27)); have n0_ := Aside0.mk (Kd.R_lower ho27 (below_size (by repeat (first | (with_reducible first | exact HB.out | apply below_alloc | apply pw_below_drewN | apply below_drew1 | refine below_set ?_ GE424.out | refine below_set ?_ GE425.out) | exact HB.out)))); have n1_ := Aside0.mk (blk_below (g := gb424) (o := .cells #[.string (⟨#[]⟩ : ByteArray), .int .i64 0] 23 (0, 0)) (by (with_reducible repeat (first | refine blk_drewN ?_ _ | refine blk_drew ?_ | refine blk_alloc ?_ _)); exact BK424.out) hb); have n2_ := Aside0.mk (blk_below (g := gb425) (o := .cells #[.string x426000_1, .int .i64 0] 23 (0, 0)) (by (with_reducible repeat (first | refine blk_drewN ?_ _ | refine blk_drew ?_ | refine blk_alloc ?_ _)); exact BK425.out) hb); have n3_ := Aside0.mk (below_step (by repeat (first | (with_reducible first | exact HB.out | apply below_alloc | apply pw_below_drewN | apply below_drew1 | refine below_set ?_ GE424.out | refine below_set ?_ GE425.out) | exact HB.out)) hb); clear BK424; clear BK425; clear HB; have HO431 := n0_; have BK424 := n1_; have BK425 := n2_; have HB := n3_; clear n0_ n1_ n2_ n3_; clear hb ho27; have hcv28 := own_string (P := Tryd.prog) Tryd.underlying104 Tryd.underlying5 Tryd.underlying9 (Kd.own_of_R HO431.out); have hcz29_0 : w26.cell? ⟨gb425, 0, none⟩ = some (.string x426000_1) := (blk_cell BK425.out 0).trans rfl; have hcz29_1 : w26.cell? ⟨gb425, 1, none⟩ = some (.int .i64 0) := (blk_cell BK425.out 1).trans rfl; have hfz29_0 := blk_frozen BK425.out 0; have hfz29_1 := blk_frozen BK425.out 1)))
           go_roundg kj5
           case measure => have := HK1.out; have := HJ5.out; omega
           case rel => exact ⟨(wrap64 (x5_1 + 1)), (x426000_1 ++ (strOfNums y429)), (by first | rfl | (simp; done) | (simp [*]; done) | (simp; exact (fun l : List UInt8 => (by cases l <;> rfl : l.isEmpty = !(l != []))) _)), H', ⟨by have := HK1.out; have := HJ5.out; omega⟩, ⟨by (with_reducible repeat (first | refine blk_drewN ?_ _ | refine blk_drew ?_ | refine blk_alloc ?_ _)); refine blk_far ?_ NB424_425.out _; (with_reducible repeat (first | refine blk_drewN ?_ _ | refine blk_drew ?_ | refine blk_alloc ?_ _)); exact BK424.out⟩, ⟨by (with_reducible repeat (first | refine blk_drewN ?_ _ | refine blk_drew ?_ | refine blk_alloc ?_ _)); refine blk_put (cs := #[.string x426000_1, .int .i64 0]) ?_ 0 _ rfl; (with_reducible repeat (first | refine blk_drewN ?_ _ | refine blk_drew ?_ | refine blk_alloc ?_ _)); exact BK425.out⟩, ⟨by repeat (first | (with_reducible first | exact HB.out | apply below_alloc | apply pw_below_drewN | apply below_drew1 | refine below_set ?_ GE424.out | refine below_set ?_ GE425.out) | exact HB.out)⟩⟩
          ·rw [if_neg c23] at H
           exact absurd H (by simp)
        ·rw [if_neg c14] at H
         have c14b0 : decide (97 ≤ (bt a0 x5_1)) = false := decide_eq_false c14
         clear c14
         obtain ⟨y432, hy432⟩ : ∃ y_ : List Int, y_ = (([bt a0 x5_1] : List Int)) := ⟨_, rfl⟩
         replace H : (if x426000_1.size + (strOfNums y432).size ≤ 9223372036854775807 then (squelchref04_Parse.l0 kj5 a0 (wrap64 (x5_1 + 1)) (x426000_1 ++ (strOfNums y432)) 0) else (none)) = some (r1, r2, r3) := by first | (rw [hy432]; with_reducible exact H) | (have H2_ := (Option.bind_some _ _).symm.trans H; rw [hy432]; with_reducible exact H2_) | (have H2_ := (Option.bind_some _ _).symm.trans H; with_reducible exact H2_) | with_reducible exact H | (rw [hy432]; exact H) | exact H
         have Ny432 := Aside0.mk hy432
         clear hy432
         by_cases c30 : x426000_1.size + (strOfNums y432).size ≤ 9223372036854775807
         ·rw [if_pos c30] at H
          have c30b0 := eq_true c30
          have c30b1 : decide (x426000_1.size + (strOfNums y432).size ≤ 9223372036854775807) = true := decide_eq_true c30
          try have c30b2 : (9223372036854775807 < x426000_1.size + (strOfNums y432).size) = False := eq_false (Nat.not_lt.2 c30)
          have H' := Aside0.mk H
          clear H
          have p13 : 0 ≤ (x5_1 : Int) := of_decide_eq_true (by first | (with_reducible assumption) | assumption)
          have q13 : x5_1 < (a0.size : Int) := of_decide_eq_true (by first | (with_reducible assumption) | assumption)
          have hx13 := bt_at a0 x5_1
          replace p13 := eq_true p13
          replace q13 := eq_true q13
          have hnb31 := NB425_424.out
          have hnc31 := NB424_425.out
          have hcz32_0 : wc.cell? ⟨gb425, 0, none⟩ = some (.string x426000_1) := (blk_cell BK425.out 0).trans rfl
          have hcz32_1 : wc.cell? ⟨gb425, 1, none⟩ = some (.int .i64 0) := (blk_cell BK425.out 1).trans rfl
          have hfz32_0 := blk_frozen BK425.out 0
          have hfz32_1 := blk_frozen BK425.out 1
          go_wp2_with (first | ((with_reducible refine gate_dst (N := 34) rfl ?_); refine Kd.R_lit (Kd.int .u8) _ 5 ?hg (N := 34) ?hd (xs := ([bt a0 x5_1] : List Int)) (inner := [.int .u8 (bt a0 x5_1)]) (ok := fun _ => True) (okp := fun _ => True) ?hr ?hp (fun _ hk => hk) trivial (Below.refl _ _) (Nat.le_refl _) (by simp) ?_; (case hd => rfl); (case hg => rfl); (case hr => first | (go_simp; done) | (go_simp; rfl)); (case hp => exact (Reps.one (show Kd.M (Kd.int .u8) _ _ _ (bt a0 x5_1) [.int .u8 (bt a0 x5_1)] from rfl) (Reps.none _ _))); intro v433 w33 ho34 hb hg_ hnew_; clear hg_ hnew_; (first | rw [← Ny432.out] at ho34 | (simp only [Int.reduceToNat] at ho34; rw [← Ny432.out] at ho34)); have n0_ := Aside0.mk (Kd.R_lower ho34 (below_size (by repeat (first | (with_reducible first | exact HB.out | apply below_alloc | apply pw_below_drewN | apply below_drew1 | refine below_set ?_ GE424.out | refine below_set ?_ GE425.out) | exact HB.out)))); have n1_ := Aside0.mk (blk_below (g := gb424) (o := .cells #[.string (⟨#[]⟩ : ByteArray), .int .i64 0] 23 (0, 0)) (by (with_reducible repeat (first | refine blk_drewN ?_ _ | refine blk_drew ?_ | refine blk_alloc ?_ _)); exact BK424.out) hb); have n2_ := Aside0.mk (blk_below (g := gb425) (o := .cells #[.string x426000_1, .int .i64 0] 23 (0, 0)) (by (with_reducible repeat (first | refine blk_drewN ?_ _ | refine blk_drew ?_ | refine blk_alloc ?_ _)); exact BK425.out) hb); have n3_ := Aside0.mk (below_step (by repeat (first | (with_reducible first | exact HB.out | apply below_alloc | apply pw_below_drewN | apply below_drew1 | refine below_set ?_ GE424.out | refine below_set ?_ GE425.out) | exact HB.out)) hb); clear BK424; clear BK425; clear HB; have HO434 := n0_; have BK424 := n1_; have BK425 := n2_; have HB := n3_; clear n0_ n1_ n2_ n3_; clear hb ho34; have hcv35 := own_string (P := Tryd.prog) Tryd.underlying104 Tryd.underlying5 Tryd.underlying9 (Kd.own_of_R HO434.out); have hcz36_0 : w33.cell? ⟨gb425, 0, none⟩ = some (.string x426000_1) := (blk_cell BK425.out 0).trans rfl; have hcz36_1 : w33.cell? ⟨gb425, 1, none⟩ = some (.int .i64 0) := (blk_cell BK425.out 1).trans rfl; have hfz36_0 := blk_frozen BK425.out 0; have hfz36_1 := blk_frozen BK425.out 1))
          repeat (go_quiet (first | ((with_reducible refine gate_dst (N := 34) rfl ?_); refine Kd.R_lit (Kd.int .u8) _ 5 ?hg (N := 34) ?hd (xs := ([bt a0 x5_1] : List Int)) (inner := [.int .u8 (bt a0 x5_1)]) (ok := fun _ => True) (okp := fun _ => True) ?hr ?hp (fun _ hk => hk) trivial (Below.refl _ _) (Nat.le_refl _) (by simp) ?_; (case hd => rfl); (case hg => rfl); (case hr => first | (go_simp; done) | (go_simp; rfl)); (case hp => exact (Reps.one (show Kd.M (Kd.int .u8) _ _ _ (bt a0 x5_1) [.int .u8 (bt a0 x5_1)] from rfl) (Reps.none _ _))); intro v433 w33 ho34 hb hg_ hnew_; clear hg_ hnew_; (first | rw [← Ny432.out] at ho34 | (simp only [Int.reduceToNat] at ho34; rw [← Ny432.out] at ho34)); have n0_ := Aside0.mk (Kd.R_lower ho34 (below_size (by repeat (first | (with_reducible first | exact HB.out | apply below_alloc | apply pw_below_drewN | apply below_drew1 | refine below_set ?_ GE424.out | refine below_set ?_ GE425.out) | exact HB.out)))); have n1_ := Aside0.mk (blk_below (g := gb424) (o := .cells #[.string (⟨#[]⟩ : ByteArray), .int .i64 0] 23 (0, 0)) (by (with_reducible repeat (first | refine blk_drewN ?_ _ | refine blk_drew ?_ | refine blk_alloc ?_ _)); exact BK424.out) hb); have n2_ := Aside0.mk (blk_below (g := gb425) (o := .cells #[.string x426000_1, .int .i64 0] 23 (0, 0)) (by (with_reducible repeat (first | refine blk_drewN ?_ _ | refine blk_drew ?_ | refine blk_alloc ?_ _)); exact BK425.out) hb); have n3_ := Aside0.mk (below_step (by repeat (first | (with_reducible first | exact HB.out | apply below_alloc | apply pw_below_drewN | apply below_drew1 | refine below_set ?_ GE424.out | refine below_set ?_ GE425.out) | exact HB.out)) hb); clear BK424; clear BK425; clear HB; have HO434 := n0_; have BK424 := n1_; have BK425 := n2_; have HB := n3_; clear n0_ n1_ n2_ n3_; clear hb ho34; have hcv35 := own_string (P := Tryd.prog) Tryd.underlying104 Tryd.underlying5 Tryd.underlying9 (Kd.own_of_R HO434.out); have hcz36_0 : w33.cell? ⟨gb425, 0, none⟩ = some (.string x426000_1) := (blk_cell BK425.out 0).trans rfl; have hcz36_1 : w33.cell? ⟨gb425, 1, none⟩ = some (.int .i64 0) := (blk_cell BK425.out 1).trans rfl; have hfz36_0 := blk_frozen BK425.out 0; have hfz36_1 := blk_frozen BK425.out 1)); try go_wp2_with (first | ((with_reducible refine gate_dst (N := 34) rfl ?_); refine Kd.R_lit (Kd.int .u8) _ 5 ?hg (N := 34) ?hd (xs := ([bt a0 x5_1] : List Int)) (inner := [.int .u8 (bt a0 x5_1)]) (ok := fun _ => True) (okp := fun _ => True) ?hr ?hp (fun _ hk => hk) trivial (Below.refl _ _) (Nat.le_refl _) (by simp) ?_; (case hd => rfl); (case hg => rfl); (case hr => first | (go_simp; done) | (go_simp; rfl)); (case hp => exact (Reps.one (show Kd.M (Kd.int .u8) _ _ _ (bt a0 x5_1) [.int .u8 (bt a0 x5_1)] from rfl) (Reps.none _ _))); intro v433 w33 ho34 hb hg_ hnew_; clear hg_ hnew_; (first | rw [← Ny432.out] at ho34 | (simp only [Int.reduceToNat] at ho34; rw [← Ny432.out] at ho34)); have n0_ := Aside0.mk (Kd.R_lower ho34 (below_size (by repeat (first | (with_reducible first | exact HB.out | apply below_alloc | apply pw_below_drewN | apply below_drew1 | refine below_set ?_ GE424.out | refine below_set ?_ GE425.out) | exact HB.out)))); have n1_ := Aside0.mk (blk_below (g := gb424) (o := .cells #[.string (⟨#[]⟩ : ByteArray), .int .i64 0] 23 (0, 0)) (by (with_reducible repeat (first | refine blk_drewN ?_ _ | refine blk_drew ?_ | refine blk_alloc ?_ _)); exact BK424.out) hb); have n2_ := Aside0.mk (blk_below (g := gb425) (o := .cells #[.string x426000_1, .int .i64 0] 23 (0, 0)) (by (with_reducible repeat (first | refine blk_drewN ?_ _ | refine blk_drew ?_ | refine blk_alloc ?_ _)); exact BK425.out) hb); have n3_ := Aside0.mk (below_step (by repeat (first | (with_reducible first | exact HB.out | apply below_alloc | apply pw_below_drewN | apply below_drew1 | refine below_set ?_ GE424.out | refine below_set ?_ GE425.out) | exact HB.out)) hb); clear BK424; clear BK425; clear HB; have HO434 := n0_; have BK424 := n1_; have BK425 := n2_; have HB := n3_; clear n0_ n1_ n2_ n3_; clear hb ho34; have hcv35 := own_string (P := Tryd.prog) Tryd.underlying104 Tryd.underlying5 Tryd.underlying9 (Kd.own_of_R HO434.out); have hcz36_0 : w33.cell? ⟨gb425, 0, none⟩ = some (.string x426000_1) := (blk_cell BK425.out 0).trans rfl; have hcz36_1 : w33.cell? ⟨gb425, 1, none⟩ = some (.int .i64 0) := (blk_cell BK425.out 1).trans rfl; have hfz36_0 := blk_frozen BK425.out 0; have hfz36_1 := blk_frozen BK425.out 1)))
          go_roundg kj5
          case measure => have := HK1.out; have := HJ5.out; omega
          case rel => exact ⟨(wrap64 (x5_1 + 1)), (x426000_1 ++ (strOfNums y432)), (by first | rfl | (simp; done) | (simp [*]; done) | (simp; exact (fun l : List UInt8 => (by cases l <;> rfl : l.isEmpty = !(l != []))) _)), H', ⟨by have := HK1.out; have := HJ5.out; omega⟩, ⟨by (with_reducible repeat (first | refine blk_drewN ?_ _ | refine blk_drew ?_ | refine blk_alloc ?_ _)); refine blk_far ?_ NB424_425.out _; (with_reducible repeat (first | refine blk_drewN ?_ _ | refine blk_drew ?_ | refine blk_alloc ?_ _)); exact BK424.out⟩, ⟨by (with_reducible repeat (first | refine blk_drewN ?_ _ | refine blk_drew ?_ | refine blk_alloc ?_ _)); refine blk_put (cs := #[.string x426000_1, .int .i64 0]) ?_ 0 _ rfl; (with_reducible repeat (first | refine blk_drewN ?_ _ | refine blk_drew ?_ | refine blk_alloc ?_ _)); exact BK425.out⟩, ⟨by repeat (first | (with_reducible first | exact HB.out | apply below_alloc | apply pw_below_drewN | apply below_drew1 | refine below_set ?_ GE424.out | refine below_set ?_ GE425.out) | exact HB.out)⟩⟩
         ·rw [if_neg c30] at H
          exact absurd H (by simp)
       ·rw [if_neg c12] at H
        exact absurd H (by simp)
      ·rw [if_neg c11] at H
       exact absurd H (by simp)
     ·replace c10 := Bool.eq_false_iff.mpr c10
      subst c10
      have H1 : (if x5_1 < (a0.size : Int) then (squelchref04_Parse.l1 kj5 a0 x5_1 false 0 x426000_1 0) else ((squelchref04_Right.f kj5 x426000_1 0).bind fun t437 => (if t437 = true then (some (x426000_1, 0, true)) else (some ((⟨#[]⟩ : ByteArray), 0, false))))) = some (r1, r2, r3) := by rw [if_neg (show ¬ (false = true) by decide)] at H; exact H
      clear H
      have H := H1
      clear H1
      by_cases c37 : x5_1 < (a0.size : Int)
      ·rw [if_pos c37] at H
       have c37b0 : decide (x5_1 < (a0.size : Int)) = true := decide_eq_true c37
       clear c37
       have H' := Aside0.mk H
       clear H
       go_wp2
       repeat (go_quiet (fail); try go_wp2)
       go_loopg [7, 8] kj5 (fun kq v7 v8 w' => ∃ (x7_3 : Bool) (x8_3 : Int) (x426001_3 : Int), v7 = .bool x7_3 ∧ v8 = .int .i64 x8_3 ∧ Aside0 (squelchref04_Parse.l1 kq a0 x5_1 x7_3 x8_3 x426000_1 x426001_3 = some (r1, r2, r3)) ∧ Aside0 (kq ≤ kj5) ∧ Aside0 (w'.heap[gb424]? = some (.cells #[.string (⟨#[]⟩ : ByteArray), .int .i64 0] 23 (0, 0))) ∧ Aside0 (w'.heap[gb425]? = some (.cells #[.string x426000_1, .int .i64 x426001_3] 23 (0, 0))) ∧ Aside0 (Below w.heap.size w w'))
       case atStart => exact ⟨(false), (0), (0), (by first | rfl | (simp; done) | (simp [*]; done) | (simp; exact (fun l : List UInt8 => (by cases l <;> rfl : l.isEmpty = !(l != []))) _)), (by first | rfl | (simp; done) | (simp [*]; done) | (simp; exact (fun l : List UInt8 => (by cases l <;> rfl : l.isEmpty = !(l != []))) _)), H', ⟨Nat.le_refl _⟩, ⟨by (with_reducible repeat (first | refine blk_drewN ?_ _ | refine blk_drew ?_ | refine blk_alloc ?_ _)); exact BK424.out⟩, ⟨by (with_reducible repeat (first | refine blk_drewN ?_ _ | refine blk_drew ?_ | refine blk_alloc ?_ _)); exact BK425.out⟩, ⟨by repeat (first | (with_reducible first | exact HB.out | apply below_alloc | apply pw_below_drewN | apply below_drew1 | refine below_set ?_ GE424.out | refine below_set ?_ GE425.out) | exact HB.out)⟩⟩
       case round =>
        clear H'
        try clear c1
        try clear p1
        try clear q1
        try clear hx1
        try clear c2
        try clear p2
        try clear hcv2
        try clear c3
        try clear hcv3
        try clear c4
        try clear p6
        try clear c7
        try clear c7b0
        try clear c8
        try clear c8b0
        try clear p9
        try clear q9
        try clear hx9
        try clear c10
        try clear c11
        try clear c11b0
        try clear c12
        try clear c12b0
        try clear p13
        try clear q13
        try clear hx13
        try clear c14
        try clear c14b0
        try clear c15
        try clear c15b0
        try clear c16
        try clear c16b0
        try clear c16b1
        try clear c16b2
        try clear c17
        try clear hcv21
        try clear c23
        try clear c23b0
        try clear c23b1
        try clear c23b2
        try clear c24
        try clear hcv28
        try clear c30
        try clear c30b0
        try clear c30b1
        try clear c30b2
        try clear c31
        try clear hcv35
        try clear c37
        try clear c37b0
        try clear hcz18_0
        try clear hcz18_1
        try clear hcz22_0
        try clear hcz22_1
        try clear hcz25_0
        try clear hcz25_1
        try clear hcz29_0
        try clear hcz29_1
        try clear hcz32_0
        try clear hcz32_1
        try clear hcz36_0
        try clear hcz36_1
        try clear hcz5_0
        try clear hcz5_1
        try clear hfz18_0
        try clear hfz18_1
        try clear hfz22_0
        try clear hfz22_1
        try clear hfz25_0
        try clear hfz25_1
        try clear hfz29_0
        try clear hfz29_1
        try clear hfz32_0
        try clear hfz32_1
        try clear hfz36_0
        try clear hfz36_1
        try clear hfz5_0
        try clear hfz5_1
        try clear p13
        try clear p2
        try clear p9
        try clear q13
        try clear q9
        obtain ⟨x7_3, x8_3, x426001_3, rfl, rfl, HA, HK3, BK424, BK425, HB⟩ := hrel
        cases gk with
        | zero => exact absurd HA.out (by simp [squelchref04_Parse.l1])
        | succ k3 =>
         have H := HA.out
         clear HA
         simp only [squelchref04_Parse.l1] at H
         by_cases c38 : x8_3 ≤ 15
         ·rw [if_pos c38] at H
          have c38b0 : decide (x8_3 ≤ 15) = true := decide_eq_true c38
          clear c38
          replace H := Option.bind_eq_some_iff.mp H
          obtain ⟨t435, A390, H⟩ := H
          replace H : (if 0 ≤ (wrap64 (x5_1 + 1)) then (if (wrap64 (x5_1 + 1)) ≤ (a0.size : Int) then (if t435.toList = (a0.extract ((wrap64 (x5_1 + 1)) : Int).toNat a0.size).toList then (squelchref04_Parse.l1 k3 a0 x5_1 true (wrap64 (x8_3 + 1)) x426000_1 x8_3) else (squelchref04_Parse.l1 k3 a0 x5_1 x7_3 (wrap64 (x8_3 + 1)) x426000_1 x426001_3)) else (none)) else (none)) = some (r1, r2, r3) := H
          have A39 := Aside0.mk A390
          clear A390
          obtain ⟨ji40, hji40⟩ : ∃ j_ : Int, (wrap64 (x5_1 + 1)) = j_ := ⟨_, rfl⟩
          replace H : (if 0 ≤ (ji40) then (if (ji40) ≤ (a0.size : Int) then (if t435.toList = (a0.extract ((ji40) : Int).toNat a0.size).toList then (squelchref04_Parse.l1 k3 a0 x5_1 true (wrap64 (x8_3 + 1)) x426000_1 x8_3) else (squelchref04_Parse.l1 k3 a0 x5_1 x7_3 (wrap64 (x8_3 + 1)) x426000_1 x426001_3)) else (none)) else (none)) = some (r1, r2, r3) := by first | (rw [hji40] at H; exact H) | (simp only [hji40] at H ⊢; exact H)
          (try rw [hji40] at A39)
          have hji40w : (IntKind.i64.wrap (x5_1 + 1)) = ji40 := (i64_w _).trans hji40
          by_cases c41 : 0 ≤ (ji40)
          ·rw [if_pos c41] at H
           have c41b0 := eq_true c41
           have c41b1 : decide (0 ≤ (ji40)) = true := decide_eq_true c41
           clear c41
           by_cases c42 : (ji40) ≤ (a0.size : Int)
           ·rw [if_pos c42] at H
            have c42b0 := eq_true c42
            have c42b1 : decide ((ji40) ≤ (a0.size : Int)) = true := decide_eq_true c42
            clear c42
            by_cases c43 : t435.toList = (a0.extract ((ji40) : Int).toNat a0.size).toList
            ·rw [if_pos c43] at H
             have c43b0 : (t435.toList == (a0.extract ((ji40) : Int).toNat a0.size).toList) = true := beq_iff_eq.mpr c43
             have c43b1 : (t435.toList != (a0.extract ((ji40) : Int).toNat a0.size).toList) = false := bne_eq_false_iff_eq.mpr c43
             clear c43
             have H' := Aside0.mk H
             clear H
             go_wp2_with (first | (go_at_call 73; (with_reducible refine (squelchref04_Digits.calls x8_3 t435 _ A39.out).mono ?_); rintro e w' ⟨rfl, ⟨nd, rfl⟩⟩; (try first | exact ⟨rfl, _, World.drewN_drewN _ _ _⟩ | exact ⟨rfl, _, Eq.trans (World.drewN_drewN _ _ _) (congrArg (World.drewN _) (Nat.add_assoc _ _ _))⟩); have hnb44 := NB425_424.out; have hnc44 := NB424_425.out; have hcz45_0 : wr.cell? ⟨gb425, 0, none⟩ = some (.string x426000_1) := (blk_cell BK425.out 0).trans rfl; have hcz45_1 : wr.cell? ⟨gb425, 1, none⟩ = some (.int .i64 x426001_3) := (blk_cell BK425.out 1).trans rfl; have hfz45_0 := blk_frozen BK425.out 0; have hfz45_1 := blk_frozen BK425.out 1))
             repeat (go_quiet (first | (go_at_call 73; (with_reducible refine (squelchref04_Digits.calls x8_3 t435 _ A39.out).mono ?_); rintro e w' ⟨rfl, ⟨nd, rfl⟩⟩; (try first | exact ⟨rfl, _, World.drewN_drewN _ _ _⟩ | exact ⟨rfl, _, Eq.trans (World.drewN_drewN _ _ _) (congrArg (World.drewN _) (Nat.add_assoc _ _ _))⟩); have hnb44 := NB425_424.out; have hnc44 := NB424_425.out; have hcz45_0 : wr.cell? ⟨gb425, 0, none⟩ = some (.string x426000_1) := (blk_cell BK425.out 0).trans rfl; have hcz45_1 : wr.cell? ⟨gb425, 1, none⟩ = some (.int .i64 x426001_3) := (blk_cell BK425.out 1).trans rfl; have hfz45_0 := blk_frozen BK425.out 0; have hfz45_1 := blk_frozen BK425.out 1)); try go_wp2_with (first | (go_at_call 73; (with_reducible refine (squelchref04_Digits.calls x8_3 t435 _ A39.out).mono ?_); rintro e w' ⟨rfl, ⟨nd, rfl⟩⟩; (try first | exact ⟨rfl, _, World.drewN_drewN _ _ _⟩ | exact ⟨rfl, _, Eq.trans (World.drewN_drewN _ _ _) (congrArg (World.drewN _) (Nat.add_assoc _ _ _))⟩); have hnb44 := NB425_424.out; have hnc44 := NB424_425.out; have hcz45_0 : wr.cell? ⟨gb425, 0, none⟩ = some (.string x426000_1) := (blk_cell BK425.out 0).trans rfl; have hcz45_1 : wr.cell? ⟨gb425, 1, none⟩ = some (.int .i64 x426001_3) := (blk_cell BK425.out 1).trans rfl; have hfz45_0 := blk_frozen BK425.out 0; have hfz45_1 := blk_frozen BK425.out 1)))
             go_roundg k3
             case measure => have := HK1.out; have := HJ5.out; have := HK3.out; omega
             case rel => exact ⟨(true), (wrap64 (x8_3 + 1)), (x8_3), (by first | rfl | (simp; done) | (simp [*]; done) | (simp; exact (fun l : List UInt8 => (by cases l <;> rfl : l.isEmpty = !(l != []))) _)), (by first | rfl | (simp; done) | (simp [*]; done) | (simp; exact (fun l : List UInt8 => (by cases l <;> rfl : l.isEmpty = !(l != []))) _)), H', ⟨by have := HK1.out; have := HJ5.out; have := HK3.out; omega⟩, ⟨by (with_reducible repeat (first | refine blk_drewN ?_ _ | refine blk_drew ?_ | refine blk_alloc ?_ _)); refine blk_far ?_ NB424_425.out _; (with_reducible repeat (first | refine blk_drewN ?_ _ | refine blk_drew ?_ | refine blk_alloc ?_ _)); exact BK424.out⟩, ⟨by (with_reducible repeat (first | refine blk_drewN ?_ _ | refine blk_drew ?_ | refine blk_alloc ?_ _)); refine blk_put (cs := #[.string x426000_1, .int .i64 x426001_3]) ?_ 1 _ rfl; (with_reducible repeat (first | refine blk_drewN ?_ _ | refine blk_drew ?_ | refine blk_alloc ?_ _)); exact BK425.out⟩, ⟨by repeat (first | (with_reducible first | exact HB.out | apply below_alloc | apply pw_below_drewN | apply below_drew1 | refine below_set ?_ GE424.out | refine below_set ?_ GE425.out) | exact HB.out)⟩⟩
            ·rw [if_neg c43] at H
             have c43b0 : (t435.toList == (a0.extract ((ji40) : Int).toNat a0.size).toList) = false := beq_eq_false_iff_ne.mpr c43
             have c43b1 : (t435.toList != (a0.extract ((ji40) : Int).toNat a0.size).toList) = true := bne_iff_ne.mpr c43
             have H' := Aside0.mk H
             clear H
             go_wp2_with (first | (go_at_call 73; (with_reducible refine (squelchref04_Digits.calls x8_3 t435 _ A39.out).mono ?_); rintro e w' ⟨rfl, ⟨nd, rfl⟩⟩; (try first | exact ⟨rfl, _, World.drewN_drewN _ _ _⟩ | exact ⟨rfl, _, Eq.trans (World.drewN_drewN _ _ _) (congrArg (World.drewN _) (Nat.add_assoc _ _ _))⟩)))
             repeat (go_quiet (first | (go_at_call 73; (with_reducible refine (squelchref04_Digits.calls x8_3 t435 _ A39.out).mono ?_); rintro e w' ⟨rfl, ⟨nd, rfl⟩⟩; (try first | exact ⟨rfl, _, World.drewN_drewN _ _ _⟩ | exact ⟨rfl, _, Eq.trans (World.drewN_drewN _ _ _) (congrArg (World.drewN _) (Nat.add_assoc _ _ _))⟩))); try go_wp2_with (first | (go_at_call 73; (with_reducible refine (squelchref04_Digits.calls x8_3 t435 _ A39.out).mono ?_); rintro e w' ⟨rfl, ⟨nd, rfl⟩⟩; (try first | exact ⟨rfl, _, World.drewN_drewN _ _ _⟩ | exact ⟨rfl, _, Eq.trans (World.drewN_drewN _ _ _) (congrArg (World.drewN _) (Nat.add_assoc _ _ _))⟩))))
             go_roundg k3
             case measure => have := HK1.out; have := HJ5.out; have := HK3.out; omega
             case rel => exact ⟨(x7_3), (wrap64 (x8_3 + 1)), (x426001_3), (by first | rfl | (simp; done) | (simp [*]; done) | (simp; exact (fun l : List UInt8 => (by cases l <;> rfl : l.isEmpty = !(l != []))) _)), (by first | rfl | (simp; done) | (simp [*]; done) | (simp; exact (fun l : List UInt8 => (by cases l <;> rfl : l.isEmpty = !(l != []))) _)), H', ⟨by have := HK1.out; have := HJ5.out; have := HK3.out; omega⟩, ⟨by (with_reducible repeat (first | refine blk_drewN ?_ _ | refine blk_drew ?_ | refine blk_alloc ?_ _)); exact BK424.out⟩, ⟨by (with_reducible repeat (first | refine blk_drewN ?_ _ | refine blk_drew ?_ | refine blk_alloc ?_ _)); exact BK425.out⟩, ⟨by repeat (first | (with_reducible first | exact HB.out | apply below_alloc | apply pw_below_drewN | apply below_drew1 | refine below_set ?_ GE424.out | refine below_set ?_ GE425.out) | exact HB.out)⟩⟩
           ·rw [if_neg c42] at H
            exact absurd H (by simp)
          ·rw [if_neg c41] at H
           exact absurd H (by simp)
         ·rw [if_neg c38] at H
          have c38b0 : decide (x8_3 ≤ 15) = false := decide_eq_false c38
          clear c38
          by_cases c46 : x7_3 = true
          ·subst c46
           have H1 : ((squelchref04_Right.f k3 x426000_1 x426001_3).bind fun t436 => (if t436 = true then (some (x426000_1, x426001_3, true)) else (some ((⟨#[]⟩ : ByteArray), 0, false)))) = some (r1, r2, r3) := by rw [if_pos rfl] at H; exact H
           clear H
           have H := H1
           clear H1
           replace H := Option.bind_eq_some_iff.mp H
           obtain ⟨t436, A470, H⟩ := H
           replace H : (if t436 = true then (some (x426000_1, x426001_3, true)) else (some ((⟨#[]⟩ : ByteArray), 0, false))) = some (r1, r2, r3) := H
           have A47 := Aside0.mk A470
           clear A470
           by_cases c48 : t436 = true
           ·subst c48
            have H1 : (some (x426000_1, x426001_3, true)) = some (r1, r2, r3) := by rw [if_pos rfl] at H; exact H
            clear H
            have H := H1
            clear H1
            simp only [Option.some.injEq, Prod.mk.injEq] at H
            obtain ⟨rfl, rfl, rfl⟩ := H
            have hnb49 := NB425_424.out
            have hnc49 := NB424_425.out
            have hcz50_0 : wr.cell? ⟨gb425, 0, none⟩ = some (.string x426000_1) := (blk_cell BK425.out 0).trans rfl
            have hcz50_1 : wr.cell? ⟨gb425, 1, none⟩ = some (.int .i64 x426001_3) := (blk_cell BK425.out 1).trans rfl
            have hfz50_0 := blk_frozen BK425.out 0
            have hfz50_1 := blk_frozen BK425.out 1
            go_wp2_with (first | (go_at_call 39; (with_reducible refine (squelchref04_Right.calls k3 x426000_1 x426001_3 true _ A47.out).mono ?_); rintro e w51 ⟨rfl, hb⟩; have n0_ := Aside0.mk (blk_below (g := gb424) (o := .cells #[.string (⟨#[]⟩ : ByteArray), .int .i64 0] 23 (0, 0)) (by (with_reducible repeat (first | refine blk_drewN ?_ _ | refine blk_drew ?_ | refine blk_alloc ?_ _)); exact BK424.out) hb); have n1_ := Aside0.mk (blk_below (g := gb425) (o := .cells #[.string x426000_1, .int .i64 x426001_3] 23 (0, 0)) (by (with_reducible repeat (first | refine blk_drewN ?_ _ | refine blk_drew ?_ | refine blk_alloc ?_ _)); exact BK425.out) hb); have n2_ := Aside0.mk (below_step (by repeat (first | (with_reducible first | exact HB.out | apply below_alloc | apply pw_below_drewN | apply below_drew1 | refine below_set ?_ GE424.out | refine below_set ?_ GE425.out) | exact HB.out)) hb); clear BK424; clear BK425; clear HB; have BK424 := n0_; have BK425 := n1_; have HB := n2_; clear n0_ n1_ n2_; (try clear hb); (try clear hb2); (try clear hk); (try clear hi); have hcz52_0 : w51.cell? ⟨gb425, 0, none⟩ = some (.string x426000_1) := (blk_cell BK425.out 0).trans rfl; have hcz52_1 : w51.cell? ⟨gb425, 1, none⟩ = some (.int .i64 x426001_3) := (blk_cell BK425.out 1).trans rfl; have hfz52_0 := blk_frozen BK425.out 0; have hfz52_1 := blk_frozen BK425.out 1; have hcz53_0 : w51.cell? ⟨gb424, 0, none⟩ = some (.string (⟨#[]⟩ : ByteArray)) := (blk_cell BK424.out 0).trans rfl; have hcz53_1 : w51.cell? ⟨gb424, 1, none⟩ = some (.int .i64 0) := (blk_cell BK424.out 1).trans rfl; have hfz53_0 := blk_frozen BK424.out 0; have hfz53_1 := blk_frozen BK424.out 1))
            repeat (go_quiet (first | (go_at_call 39; (with_reducible refine (squelchref04_Right.calls k3 x426000_1 x426001_3 true _ A47.out).mono ?_); rintro e w51 ⟨rfl, hb⟩; have n0_ := Aside0.mk (blk_below (g := gb424) (o := .cells #[.string (⟨#[]⟩ : ByteArray), .int .i64 0] 23 (0, 0)) (by (with_reducible repeat (first | refine blk_drewN ?_ _ | refine blk_drew ?_ | refine blk_alloc ?_ _)); exact BK424.out) hb); have n1_ := Aside0.mk (blk_below (g := gb425) (o := .cells #[.string x426000_1, .int .i64 x426001_3] 23 (0, 0)) (by (with_reducible repeat (first | refine blk_drewN ?_ _ | refine blk_drew ?_ | refine blk_alloc ?_ _)); exact BK425.out) hb); have n2_ := Aside0.mk (below_step (by repeat (first | (with_reducible first | exact HB.out | apply below_alloc | apply pw_below_drewN | apply below_drew1 | refine below_set ?_ GE424.out | refine below_set ?_ GE425.out) | exact HB.out)) hb); clear BK424; clear BK425; clear HB; have BK424 := n0_; have BK425 := n1_; have HB := n2_; clear n0_ n1_ n2_; (try clear hb); (try clear hb2); (try clear hk); (try clear hi); have hcz52_0 : w51.cell? ⟨gb425, 0, none⟩ = some (.string x426000_1) := (blk_cell BK425.out 0).trans rfl; have hcz52_1 : w51.cell? ⟨gb425, 1, none⟩ = some (.int .i64 x426001_3) := (blk_cell BK425.out 1).trans rfl; have hfz52_0 := blk_frozen BK425.out 0; have hfz52_1 := blk_frozen BK425.out 1; have hcz53_0 : w51.cell? ⟨gb424, 0, none⟩ = some (.string (⟨#[]⟩ : ByteArray)) := (blk_cell BK424.out 0).trans rfl; have hcz53_1 : w51.cell? ⟨gb424, 1, none⟩ = some (.int .i64 0) := (blk_cell BK424.out 1).trans rfl; have hfz53_0 := blk_frozen BK424.out 0; have hfz53_1 := blk_frozen BK424.out 1)); try go_wp2_with (first | (go_at_call 39; (with_reducible refine (squelchref04_Right.calls k3 x426000_1 x426001_3 true _ A47.out).mono ?_); rintro e w51 ⟨rfl, hb⟩; have n0_ := Aside0.mk (blk_below (g := gb424) (o := .cells #[.string (⟨#[]⟩ : ByteArray), .int .i64 0] 23 (0, 0)) (by (with_reducible repeat (first | refine blk_drewN ?_ _ | refine blk_drew ?_ | refine blk_alloc ?_ _)); exact BK424.out) hb); have n1_ := Aside0.mk (blk_below (g := gb425) (o := .cells #[.string x426000_1, .int .i64 x426001_3] 23 (0, 0)) (by (with_reducible repeat (first | refine blk_drewN ?_ _ | refine blk_drew ?_ | refine blk_alloc ?_ _)); exact BK425.out) hb); have n2_ := Aside0.mk (below_step (by repeat (first | (with_reducible first | exact HB.out | apply below_alloc | apply pw_below_drewN | apply below_drew1 | refine below_set ?_ GE424.out | refine below_set ?_ GE425.out) | exact HB.out)) hb); clear BK424; clear BK425; clear HB; have BK424 := n0_; have BK425 := n1_; have HB := n2_; clear n0_ n1_ n2_; (try clear hb); (try clear hb2); (try clear hk); (try clear hi); have hcz52_0 : w51.cell? ⟨gb425, 0, none⟩ = some (.string x426000_1) := (blk_cell BK425.out 0).trans rfl; have hcz52_1 : w51.cell? ⟨gb425, 1, none⟩ = some (.int .i64 x426001_3) := (blk_cell BK425.out 1).trans rfl; have hfz52_0 := blk_frozen BK425.out 0; have hfz52_1 := blk_frozen BK425.out 1; have hcz53_0 : w51.cell? ⟨gb424, 0, none⟩ = some (.string (⟨#[]⟩ : ByteArray)) := (blk_cell BK424.out 0).trans rfl; have hcz53_1 : w51.cell? ⟨gb424, 1, none⟩ = some (.int .i64 0) := (blk_cell BK424.out 1).trans rfl; have hfz53_0 := blk_frozen BK424.out 0; have hfz53_1 := blk_frozen BK424.out 1)))
            refine bodyPost_ret (results_ct rfl _ _ gb424 23 #[.string x426000_1, .int .i64 x426001_3] (0, 0) _ rfl (by (with_reducible repeat (first | refine blk_drewN ?_ _ | refine blk_drew ?_ | refine blk_alloc ?_ _)); refine blk_put (cs := #[.string x426000_1, .int .i64 0]) ?_ 1 _ rfl; (with_reducible repeat (first | refine blk_drewN ?_ _ | refine blk_drew ?_ | refine blk_alloc ?_ _)); refine blk_put (cs := #[.string (⟨#[]⟩ : ByteArray), .int .i64 0]) ?_ 0 _ rfl; (with_reducible repeat (first | refine blk_drewN ?_ _ | refine blk_drew ?_ | refine blk_alloc ?_ _)); exact BK424.out) Tryd.underlying23 rfl (by kernel_rfl)) rfl ?_
            exact ⟨by first | rfl | (simp [errW_none, errW_some] <;> rfl) | (simp [*, errW_none, errW_some] <;> rfl), by repeat (first | (with_reducible first | exact HB.out | apply below_alloc | apply pw_below_drewN | apply below_drew1 | refine below_set ?_ GE424.out | refine below_set ?_ GE425.out) | exact HB.out)⟩
           ·replace c48 := Bool.eq_false_iff.mpr c48
            subst c48
            have H1 : (some ((⟨#[]⟩ : ByteArray), 0, false)) = some (r1, r2, r3) := by rw [if_neg (show ¬ (false = true) by decide)] at H; exact H
            clear H
            have H := H1
            clear H1
            simp only [Option.some.injEq, Prod.mk.injEq] at H
            obtain ⟨rfl, rfl, rfl⟩ := H
            have hnb54 := NB425_424.out
            have hnc54 := NB424_425.out
            have hcz55_0 : wr.cell? ⟨gb425, 0, none⟩ = some (.string x426000_1) := (blk_cell BK425.out 0).trans rfl
            have hcz55_1 : wr.cell? ⟨gb425, 1, none⟩ = some (.int .i64 x426001_3) := (blk_cell BK425.out 1).trans rfl
            have hfz55_0 := blk_frozen BK425.out 0
            have hfz55_1 := blk_frozen BK425.out 1
            go_wp2_with (first | (go_at_call 39; (with_reducible refine (squelchref04_Right.calls k3 x426000_1 x426001_3 false _ A47.out).mono ?_); rintro e w56 ⟨rfl, hb⟩; have n0_ := Aside0.mk (blk_below (g := gb424) (o := .cells #[.string (⟨#[]⟩ : ByteArray), .int .i64 0] 23 (0, 0)) (by (with_reducible repeat (first | refine blk_drewN ?_ _ | refine blk_drew ?_ | refine blk_alloc ?_ _)); exact BK424.out) hb); have n1_ := Aside0.mk (blk_below (g := gb425) (o := .cells #[.string x426000_1, .int .i64 x426001_3] 23 (0, 0)) (by (with_reducible repeat (first | refine blk_drewN ?_ _ | refine blk_drew ?_ | refine blk_alloc ?_ _)); exact BK425.out) hb); have n2_ := Aside0.mk (below_step (by repeat (first | (with_reducible first | exact HB.out | apply below_alloc | apply pw_below_drewN | apply below_drew1 | refine below_set ?_ GE424.out | refine below_set ?_ GE425.out) | exact HB.out)) hb); clear BK424; clear BK425; clear HB; have BK424 := n0_; have BK425 := n1_; have HB := n2_; clear n0_ n1_ n2_; (try clear hb); (try clear hb2); (try clear hk); (try clear hi); have hcz57_0 : w56.cell? ⟨gb424, 0, none⟩ = some (.string (⟨#[]⟩ : ByteArray)) := (blk_cell BK424.out 0).trans rfl; have hcz57_1 : w56.cell? ⟨gb424, 1, none⟩ = some (.int .i64 0) := (blk_cell BK424.out 1).trans rfl; have hfz57_0 := blk_frozen BK424.out 0; have hfz57_1 := blk_frozen BK424.out 1))
            repeat (go_quiet (first | (go_at_call 39; (with_reducible refine (squelchref04_Right.calls k3 x426000_1 x426001_3 false _ A47.out).mono ?_); rintro e w56 ⟨rfl, hb⟩; have n0_ := Aside0.mk (blk_below (g := gb424) (o := .cells #[.string (⟨#[]⟩ : ByteArray), .int .i64 0] 23 (0, 0)) (by (with_reducible repeat (first | refine blk_drewN ?_ _ | refine blk_drew ?_ | refine blk_alloc ?_ _)); exact BK424.out) hb); have n1_ := Aside0.mk (blk_below (g := gb425) (o := .cells #[.string x426000_1, .int .i64 x426001_3] 23 (0, 0)) (by (with_reducible repeat (first | refine blk_drewN ?_ _ | refine blk_drew ?_ | refine blk_alloc ?_ _)); exact BK425.out) hb); have n2_ := Aside0.mk (below_step (by repeat (first | (with_reducible first | exact HB.out | apply below_alloc | apply pw_below_drewN | apply below_drew1 | refine below_set ?_ GE424.out | refine below_set ?_ GE425.out) | exact HB.out)) hb); clear BK424; clear BK425; clear HB; have BK424 := n0_; have BK425 := n1_; have HB := n2_; clear n0_ n1_ n2_; (try clear hb); (try clear hb2); (try clear hk); (try clear hi); have hcz57_0 : w56.cell? ⟨gb424, 0, none⟩ = some (.string (⟨#[]⟩ : ByteArray)) := (blk_cell BK424.out 0).trans rfl; have hcz57_1 : w56.cell? ⟨gb424, 1, none⟩ = some (.int .i64 0) := (blk_cell BK424.out 1).trans rfl; have hfz57_0 := blk_frozen BK424.out 0; have hfz57_1 := blk_frozen BK424.out 1)); try go_wp2_with (first | (go_at_call 39; (with_reducible refine (squelchref04_Right.calls k3 x426000_1 x426001_3 false _ A47.out).mono ?_); rintro e w56 ⟨rfl, hb⟩; have n0_ := Aside0.mk (blk_below (g := gb424) (o := .cells #[.string (⟨#[]⟩ : ByteArray), .int .i64 0] 23 (0, 0)) (by (with_reducible repeat (first | refine blk_drewN ?_ _ | refine blk_drew ?_ | refine blk_alloc ?_ _)); exact BK424.out) hb); have n1_ := Aside0.mk (blk_below (g := gb425) (o := .cells #[.string x426000_1, .int .i64 x426001_3] 23 (0, 0)) (by (with_reducible repeat (first | refine blk_drewN ?_ _ | refine blk_drew ?_ | refine blk_alloc ?_ _)); exact BK425.out) hb); have n2_ := Aside0.mk (below_step (by repeat (first | (with_reducible first | exact HB.out | apply below_alloc | apply pw_below_drewN | apply below_drew1 | refine below_set ?_ GE424.out | refine below_set ?_ GE425.out) | exact HB.out)) hb); clear BK424; clear BK425; clear HB; have BK424 := n0_; have BK425 := n1_; have HB := n2_; clear n0_ n1_ n2_; (try clear hb); (try clear hb2); (try clear hk); (try clear hi); have hcz57_0 : w56.cell? ⟨gb424, 0, none⟩ = some (.string (⟨#[]⟩ : ByteArray)) := (blk_cell BK424.out 0).trans rfl; have hcz57_1 : w56.cell? ⟨gb424, 1, none⟩ = some (.int .i64 0) := (blk_cell BK424.out 1).trans rfl; have hfz57_0 := blk_frozen BK424.out 0; have hfz57_1 := blk_frozen BK424.out 1)))
            refine bodyPost_ret (results_ct rfl _ _ gb424 23 #[.string (⟨#[]⟩ : ByteArray), .int .i64 0] (0, 0) _ rfl (by (with_reducible repeat (first | refine blk_drewN ?_ _ | refine blk_drew ?_ | refine blk_alloc ?_ _)); refine blk_put (cs := #[.string (⟨#[]⟩ : ByteArray), .int .i64 0]) ?_ 1 _ rfl; (with_reducible repeat (first | refine blk_drewN ?_ _ | refine blk_drew ?_ | refine blk_alloc ?_ _)); refine blk_put (cs := #[.string (⟨#[]⟩ : ByteArray), .int .i64 0]) ?_ 0 _ rfl; (with_reducible repeat (first | refine blk_drewN ?_ _ | refine blk_drew ?_ | refine blk_alloc ?_ _)); exact BK424.out) Tryd.underlying23 rfl (by kernel_rfl)) rfl ?_
            exact ⟨by first | rfl | (simp [errW_none, errW_some] <;> rfl) | (simp [*, errW_none, errW_some] <;> rfl), by repeat (first | (with_reducible first | exact HB.out | apply below_alloc | apply pw_below_drewN | apply below_drew1 | refine below_set ?_ GE424.out | refine below_set ?_ GE425.out) | exact HB.out)⟩
          ·replace c46 := Bool.eq_false_iff.mpr c46
           subst c46
           have H1 : (some ((⟨#[]⟩ : ByteArray), 0, false)) = some (r1, r2, r3) := by rw [if_neg (show ¬ (false = true) by decide)] at H; exact H
           clear H
           have H := H1
           clear H1
           simp only [Option.some.injEq, Prod.mk.injEq] at H
           obtain ⟨rfl, rfl, rfl⟩ := H
           have hnb58 := NB424_425.out
           have hnc58 := NB425_424.out
           have hcz59_0 : wr.cell? ⟨gb424, 0, none⟩ = some (.string (⟨#[]⟩ : ByteArray)) := (blk_cell BK424.out 0).trans rfl
           have hcz59_1 : wr.cell? ⟨gb424, 1, none⟩ = some (.int .i64 0) := (blk_cell BK424.out 1).trans rfl
           have hfz59_0 := blk_frozen BK424.out 0
           have hfz59_1 := blk_frozen BK424.out 1
           go_wp2
           repeat (go_quiet (fail); try go_wp2)
           refine bodyPost_ret (results_ct rfl _ _ gb424 23 #[.string (⟨#[]⟩ : ByteArray), .int .i64 0] (0, 0) _ rfl (by (with_reducible repeat (first | refine blk_drewN ?_ _ | refine blk_drew ?_ | refine blk_alloc ?_ _)); refine blk_put (cs := #[.string (⟨#[]⟩ : ByteArray), .int .i64 0]) ?_ 1 _ rfl; (with_reducible repeat (first | refine blk_drewN ?_ _ | refine blk_drew ?_ | refine blk_alloc ?_ _)); refine blk_put (cs := #[.string (⟨#[]⟩ : ByteArray), .int .i64 0]) ?_ 0 _ rfl; (with_reducible repeat (first | refine blk_drewN ?_ _ | refine blk_drew ?_ | refine blk_alloc ?_ _)); exact BK424.out) Tryd.underlying23 rfl (by kernel_rfl)) rfl ?_
           exact ⟨by first | rfl | (simp [errW_none, errW_some] <;> rfl) | (simp [*, errW_none, errW_some] <;> rfl), by repeat (first | (with_reducible first | exact HB.out | apply below_alloc | apply pw_below_drewN | apply below_drew1 | refine below_set ?_ GE424.out | refine below_set ?_ GE425.out) | exact HB.out)⟩
      ·rw [if_neg c37] at H
       have c37b0 : decide (x5_1 < (a0.size : Int)) = false := decide_eq_false c37
       clear c37
       replace H := Option.bind_eq_some_iff.mp H
       obtain ⟨t437, A600, H⟩ := H
       replace H : (if t437 = true then (some (x426000_1, 0, true)) else (some ((⟨#[]⟩ : ByteArray), 0, false))) = some (r1, r2, r3) := H
       have A60 := Aside0.mk A600
       clear A600
       by_cases c61 : t437 = true
       ·subst c61
        have H1 : (some (x426000_1, 0, true)) = some (r1, r2, r3) := by rw [if_pos rfl] at H; exact H
        clear H
        have H := H1
        clear H1
        simp only [Option.some.injEq, Prod.mk.injEq] at H
        obtain ⟨rfl, rfl, rfl⟩ := H
        have hnb62 := NB425_424.out
        have hnc62 := NB424_425.out
        have hcz63_0 : wc.cell? ⟨gb425, 0, none⟩ = some (.string x426000_1) := (blk_cell BK425.out 0).trans rfl
        have hcz63_1 : wc.cell? ⟨gb425, 1, none⟩ = some (.int .i64 0) := (blk_cell BK425.out 1).trans rfl
        have hfz63_0 := blk_frozen BK425.out 0
        have hfz63_1 := blk_frozen BK425.out 1
        go_wp2_with (first | (go_at_call 39; (with_reducible refine (squelchref04_Right.calls kj5 x426000_1 0 true _ A60.out).mono ?_); rintro e w64 ⟨rfl, hb⟩; have n0_ := Aside0.mk (blk_below (g := gb424) (o := .cells #[.string (⟨#[]⟩ : ByteArray), .int .i64 0] 23 (0, 0)) (by (with_reducible repeat (first | refine blk_drewN ?_ _ | refine blk_drew ?_ | refine blk_alloc ?_ _)); exact BK424.out) hb); have n1_ := Aside0.mk (blk_below (g := gb425) (o := .cells #[.string x426000_1, .int .i64 0] 23 (0, 0)) (by (with_reducible repeat (first | refine blk_drewN ?_ _ | refine blk_drew ?_ | refine blk_alloc ?_ _)); exact BK425.out) hb); have n2_ := Aside0.mk (below_step (by repeat (first | (with_reducible first | exact HB.out | apply below_alloc | apply pw_below_drewN | apply below_drew1 | refine below_set ?_ GE424.out | refine below_set ?_ GE425.out) | exact HB.out)) hb); clear BK424; clear BK425; clear HB; have BK424 := n0_; have BK425 := n1_; have HB := n2_; clear n0_ n1_ n2_; (try clear hb); (try clear hb2); (try clear hk); (try clear hi); have hcz65_0 : w64.cell? ⟨gb425, 0, none⟩ = some (.string x426000_1) := (blk_cell BK425.out 0).trans rfl; have hcz65_1 : w64.cell? ⟨gb425, 1, none⟩ = some (.int .i64 0) := (blk_cell BK425.out 1).trans rfl; have hfz65_0 := blk_frozen BK425.out 0; have hfz65_1 := blk_frozen BK425.out 1; have hcz66_0 : w64.cell? ⟨gb424, 0, none⟩ = some (.string (⟨#[]⟩ : ByteArray)) := (blk_cell BK424.out 0).trans rfl; have hcz66_1 : w64.cell? ⟨gb424, 1, none⟩ = some (.int .i64 0) := (blk_cell BK424.out 1).trans rfl; have hfz66_0 := blk_frozen BK424.out 0; have hfz66_1 := blk_frozen BK424.out 1))
        repeat (go_quiet (first | (go_at_call 39; (with_reducible refine (squelchref04_Right.calls kj5 x426000_1 0 true _ A60.out).mono ?_); rintro e w64 ⟨rfl, hb⟩; have n0_ := Aside0.mk (blk_below (g := gb424) (o := .cells #[.string (⟨#[]⟩ : ByteArray), .int .i64 0] 23 (0, 0)) (by (with_reducible repeat (first | refine blk_drewN ?_ _ | refine blk_drew ?_ | refine blk_alloc ?_ _)); exact BK424.out) hb); have n1_ := Aside0.mk (blk_below (g := gb425) (o := .cells #[.string x426000_1, .int .i64 0] 23 (0, 0)) (by (with_reducible repeat (first | refine blk_drewN ?_ _ | refine blk_drew ?_ | refine blk_alloc ?_ _)); exact BK425.out) hb); have n2_ := Aside0.mk (below_step (by repeat (first | (with_reducible first | exact HB.out | apply below_alloc | apply pw_below_drewN | apply below_drew1 | refine below_set ?_ GE424.out | refine below_set ?_ GE425.out) | exact HB.out)) hb); clear BK424; clear BK425; clear HB; have BK424 := n0_; have BK425 := n1_; have HB := n2_; clear n0_ n1_ n2_; (try clear hb); (try clear hb2); (try clear hk); (try clear hi); have hcz65_0 : w64.cell? ⟨gb425, 0, none⟩ = some (.string x426000_1) := (blk_cell BK425.out 0).trans rfl; have hcz65_1 : w64.cell? ⟨gb425, 1, none⟩ = some (.int .i64 0) := (blk_cell BK425.out 1).trans rfl; have hfz65_0 := blk_frozen BK425.out 0; have hfz65_1 := blk_frozen BK425.out 1; have hcz66_0 : w64.cell? ⟨gb424, 0, none⟩ = some (.string (⟨#[]⟩ : ByteArray)) := (blk_cell BK424.out 0).trans rfl; have hcz66_1 : w64.cell? ⟨gb424, 1, none⟩ = some (.int .i64 0) := (blk_cell BK424.out 1).trans rfl; have hfz66_0 := blk_frozen BK424.out 0; have hfz66_1 := blk_frozen BK424.out 1)); try go_wp2_with (first | (go_at_call 39; (with_reducible refine (squelchref04_Right.calls kj5 x426000_1 0 true _ A60.out).mono ?_); rintro e w64 ⟨rfl, hb⟩; have n0_ := Aside0.mk (blk_below (g := gb424) (o := .cells #[.string (⟨#[]⟩ : ByteArray), .int .i64 0] 23 (0, 0)) (by (with_reducible repeat (first | refine blk_drewN ?_ _ | refine blk_drew ?_ | refine blk_alloc ?_ _)); exact BK424.out) hb); have n1_ := Aside0.mk (blk_below (g := gb425) (o := .cells #[.string x426000_1, .int .i64 0] 23 (0, 0)) (by (with_reducible repeat (first | refine blk_drewN ?_ _ | refine blk_drew ?_ | refine blk_alloc ?_ _)); exact BK425.out) hb); have n2_ := Aside0.mk (below_step (by repeat (first | (with_reducible first | exact HB.out | apply below_alloc | apply pw_below_drewN | apply below_drew1 | refine below_set ?_ GE424.out | refine below_set ?_ GE425.out) | exact HB.out)) hb); clear BK424; clear BK425; clear HB; have BK424 := n0_; have BK425 := n1_; have HB := n2_; clear n0_ n1_ n2_; (try clear hb); (try clear hb2); (try clear hk); (try clear hi); have hcz65_0 : w64.cell? ⟨gb425, 0, none⟩ = some (.string x426000_1) := (blk_cell BK425.out 0).trans rfl; have hcz65_1 : w64.cell? ⟨gb425, 1, none⟩ = some (.int .i64 0) := (blk_cell BK425.out 1).trans rfl; have hfz65_0 := blk_frozen BK425.out 0; have hfz65_1 := blk_frozen BK425.out 1; have hcz66_0 : w64.cell? ⟨gb424, 0, none⟩ = some (.string (⟨#[]⟩ : ByteArray)) := (blk_cell BK424.out 0).trans rfl; have hcz66_1 : w64.cell? ⟨gb424, 1, none⟩ = some (.int .i64 0) := (blk_cell BK424.out 1).trans rfl; have hfz66_0 := blk_frozen BK424.out 0; have hfz66_1 := blk_frozen BK424.out 1)))
        refine bodyPost_ret (results_ct rfl _ _ gb424 23 #[.string x426000_1, .int .i64 0] (0, 0) _ rfl (by (with_reducible repeat (first | refine blk_drewN ?_ _ | refine blk_drew ?_ | refine blk_alloc ?_ _)); refine blk_put (cs := #[.string x426000_1, .int .i64 0]) ?_ 1 _ rfl; (with_reducible repeat (first | refine blk_drewN ?_ _ | refine blk_drew ?_ | refine blk_alloc ?_ _)); refine blk_put (cs := #[.string (⟨#[]⟩ : ByteArray), .int .i64 0]) ?_ 0 _ rfl; (with_reducible repeat (first | refine blk_drewN ?_ _ | refine blk_drew ?_ | refine blk_alloc ?_ _)); exact BK424.out) Tryd.underlying23 rfl (by kernel_rfl)) rfl ?_
        exact ⟨by first | rfl | (simp [errW_none, errW_some] <;> rfl) | (simp [*, errW_none, errW_some] <;> rfl), by repeat (first | (with_reducible first | exact HB.out | apply below_alloc | apply pw_below_drewN | apply below_drew1 | refine below_set ?_ GE424.out | refine below_set ?_ GE425.out) | exact HB.out)⟩
       ·replace c61 := Bool.eq_false_iff.mpr c61
        subst c61
        have H1 : (some ((⟨#[]⟩ : ByteArray), 0, false)) = some (r1, r2, r3) := by rw [if_neg (show ¬ (false = true) by decide)] at H; exact H
        clear H
        have H := H1
        clear H1
        simp only [Option.some.injEq, Prod.mk.injEq] at H
        obtain ⟨rfl, rfl, rfl⟩ := H
        have hnb67 := NB425_424.out
        have hnc67 := NB424_425.out
        have hcz68_0 : wc.cell? ⟨gb425, 0, none⟩ = some (.string x426000_1) := (blk_cell BK425.out 0).trans rfl
        have hcz68_1 : wc.cell? ⟨gb425, 1, none⟩ = some (.int .i64 0) := (blk_cell BK425.out 1).trans rfl
        have hfz68_0 := blk_frozen BK425.out 0
        have hfz68_1 := blk_frozen BK425.out 1
        go_wp2_with (first | (go_at_call 39; (with_reducible refine (squelchref04_Right.calls kj5 x426000_1 0 false _ A60.out).mono ?_); rintro e w69 ⟨rfl, hb⟩; have n0_ := Aside0.mk (blk_below (g := gb424) (o := .cells #[.string (⟨#[]⟩ : ByteArray), .int .i64 0] 23 (0, 0)) (by (with_reducible repeat (first | refine blk_drewN ?_ _ | refine blk_drew ?_ | refine blk_alloc ?_ _)); exact BK424.out) hb); have n1_ := Aside0.mk (blk_below (g := gb425) (o := .cells #[.string x426000_1, .int .i64 0] 23 (0, 0)) (by (with_reducible repeat (first | refine blk_drewN ?_ _ | refine blk_drew ?_ | refine blk_alloc ?_ _)); exact BK425.out) hb); have n2_ := Aside0.mk (below_step (by repeat (first | (with_reducible first | exact HB.out | apply below_alloc | apply pw_below_drewN | apply below_drew1 | refine below_set ?_ GE424.out | refine below_set ?_ GE425.out) | exact HB.out)) hb); clear BK424; clear BK425; clear HB; have BK424 := n0_; have BK425 := n1_; have HB := n2_; clear n0_ n1_ n2_; (try clear hb); (try clear hb2); (try clear hk); (try clear hi); have hcz70_0 : w69.cell? ⟨gb424, 0, none⟩ = some (.string (⟨#[]⟩ : ByteArray)) := (blk_cell BK424.out 0).trans rfl; have hcz70_1 : w69.cell? ⟨gb424, 1, none⟩ = some (.int .i64 0) := (blk_cell BK424.out 1).trans rfl; have hfz70_0 := blk_frozen BK424.out 0; have hfz70_1 := blk_frozen BK424.out 1))
        repeat (go_quiet (first | (go_at_call 39; (with_reducible refine (squelchref04_Right.calls kj5 x426000_1 0 false _ A60.out).mono ?_); rintro e w69 ⟨rfl, hb⟩; have n0_ := Aside0.mk (blk_below (g := gb424) (o := .cells #[.string (⟨#[]⟩ : ByteArray), .int .i64 0] 23 (0, 0)) (by (with_reducible repeat (first | refine blk_drewN ?_ _ | refine blk_drew ?_ | refine blk_alloc ?_ _)); exact BK424.out) hb); have n1_ := Aside0.mk (blk_below (g := gb425) (o := .cells #[.string x426000_1, .int .i64 0] 23 (0, 0)) (by (with_reducible repeat (first | refine blk_drewN ?_ _ | refine blk_drew ?_ | refine blk_alloc ?_ _)); exact BK425.out) hb); have n2_ := Aside0.mk (below_step (by repeat (first | (with_reducible first | exact HB.out | apply below_alloc | apply pw_below_drewN | apply below_drew1 | refine below_set ?_ GE424.out | refine below_set ?_ GE425.out) | exact HB.out)) hb); clear BK424; clear BK425; clear HB; have BK424 := n0_; have BK425 := n1_; have HB := n2_; clear n0_ n1_ n2_; (try clear hb); (try clear hb2); (try clear hk); (try clear hi); have hcz70_0 : w69.cell? ⟨gb424, 0, none⟩ = some (.string (⟨#[]⟩ : ByteArray)) := (blk_cell BK424.out 0).trans rfl; have hcz70_1 : w69.cell? ⟨gb424, 1, none⟩ = some (.int .i64 0) := (blk_cell BK424.out 1).trans rfl; have hfz70_0 := blk_frozen BK424.out 0; have hfz70_1 := blk_frozen BK424.out 1)); try go_wp2_with (first | (go_at_call 39; (with_reducible refine (squelchref04_Right.calls kj5 x426000_1 0 false _ A60.out).mono ?_); rintro e w69 ⟨rfl, hb⟩; have n0_ := Aside0.mk (blk_below (g := gb424) (o := .cells #[.string (⟨#[]⟩ : ByteArray), .int .i64 0] 23 (0, 0)) (by (with_reducible repeat (first | refine blk_drewN ?_ _ | refine blk_drew ?_ | refine blk_alloc ?_ _)); exact BK424.out) hb); have n1_ := Aside0.mk (blk_below (g := gb425) (o := .cells #[.string x426000_1, .int .i64 0] 23 (0, 0)) (by (with_reducible repeat (first | refine blk_drewN ?_ _ | refine blk_drew ?_ | refine blk_alloc ?_ _)); exact BK425.out) hb); have n2_ := Aside0.mk (below_step (by repeat (first | (with_reducible first | exact HB.out | apply below_alloc | apply pw_below_drewN | apply below_drew1 | refine below_set ?_ GE424.out | refine below_set ?_ GE425.out) | exact HB.out)) hb); clear BK424; clear BK425; clear HB; have BK424 := n0_; have BK425 := n1_; have HB := n2_; clear n0_ n1_ n2_; (try clear hb); (try clear hb2); (try clear hk); (try clear hi); have hcz70_0 : w69.cell? ⟨gb424, 0, none⟩ = some (.string (⟨#[]⟩ : ByteArray)) := (blk_cell BK424.out 0).trans rfl; have hcz70_1 : w69.cell? ⟨gb424, 1, none⟩ = some (.int .i64 0) := (blk_cell BK424.out 1).trans rfl; have hfz70_0 := blk_frozen BK424.out 0; have hfz70_1 := blk_frozen BK424.out 1)))
        refine bodyPost_ret (results_ct rfl _ _ gb424 23 #[.string (⟨#[]⟩ : ByteArray), .int .i64 0] (0, 0) _ rfl (by (with_reducible repeat (first | refine blk_drewN ?_ _ | refine blk_drew ?_ | refine blk_alloc ?_ _)); refine blk_put (cs := #[.string (⟨#[]⟩ : ByteArray), .int .i64 0]) ?_ 1 _ rfl; (with_reducible repeat (first | refine blk_drewN ?_ _ | refine blk_drew ?_ | refine blk_alloc ?_ _)); refine blk_put (cs := #[.string (⟨#[]⟩ : ByteArray), .int .i64 0]) ?_ 0 _ rfl; (with_reducible repeat (first | refine blk_drewN ?_ _ | refine blk_drew ?_ | refine blk_alloc ?_ _)); exact BK424.out) Tryd.underlying23 rfl (by kernel_rfl)) rfl ?_
        exact ⟨by first | rfl | (simp [errW_none, errW_some] <;> rfl) | (simp [*, errW_none, errW_some] <;> rfl), by repeat (first | (with_reducible first | exact HB.out | apply below_alloc | apply pw_below_drewN | apply below_drew1 | refine below_set ?_ GE424.out | refine below_set ?_ GE425.out) | exact HB.out)⟩

end Go.Proofs.YtpmieapgbdbabaaDoor.QAll
end

section
/- Walks, written by a program of this session (wip/pp): a Go function comes to what the Lean function beside it tells. -/
namespace Go.Proofs.YtpmieapgbdbabaaDoor.QAll
open Go.RowKit Go.Proofs.YtpmieapgbdbabaaDoorW.PrintWords Go.Proofs.YtpmieapgbdbabaaDoorW.PrintLast Go.Proofs.YtpmieapgbdbabaaDoorW.PrintMore
set_option linter.unusedVariables false
set_option linter.unusedSimpArgs false

def squelchref05_split.l0 : Nat → ByteArray → Int → List ByteArray → Int → Option (List ByteArray)
 | 0, _, _, _, _ => none
 | k + 1, x0, x1, x5, x6 => if x6 < (x0.size : Int) then (if 0 ≤ x6 then (if (bt x0 x6) = x1 then (if x5.length < 8796093022208 then (squelchref05_split.l0 k x0 x1 (x5 ++ [(⟨#[]⟩ : ByteArray)]) (wrap64 (x6 + 1))) else (none)) else (if 0 ≤ (wrap64 ((x5.length : Int) - 1)) then (if (wrap64 ((x5.length : Int) - 1)) < (x5.length : Int) then (if x6 ≤ (wrap64 (x6 + 1)) then (if (wrap64 (x6 + 1)) ≤ (x0.size : Int) then (if (rdOf ByteArray.empty x5 (wrap64 ((x5.length : Int) - 1))).size + (x0.extract (x6 : Int).toNat ((wrap64 (x6 + 1)) : Int).toNat).size ≤ 9223372036854775807 then (squelchref05_split.l0 k x0 x1 (x5.set ((wrap64 ((x5.length : Int) - 1)) : Int).toNat ((rdOf ByteArray.empty x5 (wrap64 ((x5.length : Int) - 1))) ++ (x0.extract (x6 : Int).toNat ((wrap64 (x6 + 1)) : Int).toNat))) (wrap64 (x6 + 1))) else (none)) else (none)) else (none)) else (none)) else (none))) else (none)) else (some x5)
def squelchref05_split.f (k : Nat) (a0 : ByteArray) (a1 : Int) : Option (List ByteArray) := squelchref05_split.l0 k a0 a1 (([(⟨#[]⟩ : ByteArray)] : List ByteArray)) 0
def squelchref05_split.T7 : Bool × List (List Nat × List Nat) := (true, [([], []), ([], []), ([1], [1]), ([2], [2]), ([], []), ([], []), ([5], [5]), ([6], [6]), ([4, 7], [4, 7]), ([8], [8]), ([], []), ([], []), ([], []), ([12], [12]), ([10, 11, 13], [10, 11, 13]), ([9, 14], [9, 14]), ([0, 3, 0, 1, 2, 3, 4, 5, 6, 7, 8, 9, 10, 11, 12, 13, 14, 15], [0, 3]), ([16, 15, 0, 1, 2, 3, 4, 5, 6, 7, 8, 9, 10, 11, 12, 13, 14, 15], [15, 16])])
def squelchref05_split.B7 : List Nat := [0, 0, 2, 6, 0, 0, 32, 96, 240, 496, 0, 0, 0, 4096, 15360, 32752, 65535, 131071]
theorem squelchref05_split.tab7 : rtab .any (opsOf Tryd.f86 7) = squelchref05_split.T7 := by kernel_rfl
theorem squelchref05_split.bits7 : waitsOk squelchref05_split.T7.2 squelchref05_split.B7 = true := by kernel_rfl
set_option maxHeartbeats 8000000 in
set_option maxRecDepth 100000 in
theorem squelchref05_split.calls (k : Nat) (a0 : ByteArray) (a1 : Int) (r : List ByteArray) (w : World) (h : squelchref05_split.f k a0 a1 = some r) :
  Calls Tryd.prog 86 #[.string a0, .int .u8 a1] w fun e w' => ∃ v0_ : Value, e = .returned (v0_) ∧ Kd.R Kd.string 9 w' w.heap.size (fun _ => True) v0_ r ∧ Below w.heap.size w w' := by
 have HB := Aside0.mk (Below.refl w.heap.size w)
 have H : (squelchref05_split.l0 k a0 a1 (([(⟨#[]⟩ : ByteArray)] : List ByteArray)) 0) = some r := h
 clear h
 obtain ⟨y617, hy617⟩ : ∃ y_ : List ByteArray, y_ = (([(⟨#[]⟩ : ByteArray)] : List ByteArray)) := ⟨_, rfl⟩
 replace H : (squelchref05_split.l0 k a0 a1 y617 0) = some r := by first | (rw [hy617]; with_reducible exact H) | (have H2_ := (Option.bind_some _ _).symm.trans H; rw [hy617]; with_reducible exact H2_) | (have H2_ := (Option.bind_some _ _).symm.trans H; with_reducible exact H2_) | with_reducible exact H | (rw [hy617]; exact H) | exact H
 have Ny617 := Aside0.mk hy617
 clear hy617
 have H' := Aside0.mk H
 clear H
 go_enter Tryd.func86, Tryd.ntmps86
 go_wp2_with (first | ((with_reducible refine gate_dst (N := 7) rfl ?_); refine Kd.R_lit Kd.string _ 9 ?hg (N := 7) ?hd (xs := ([(⟨#[]⟩ : ByteArray)] : List ByteArray)) (inner := [.string (⟨#[]⟩ : ByteArray)]) (ok := fun _ => True) (okp := fun _ => True) ?hr ?hp (fun _ hk => hk) trivial (Below.refl _ _) (Nat.le_refl _) (by simp) ?_; (case hd => rfl); (case hg => rfl); (case hr => first | (go_simp; done) | (go_simp; rfl)); (case hp => exact (Reps.one (show Kd.M Kd.string _ _ _ (⟨#[]⟩ : ByteArray) [.string (⟨#[]⟩ : ByteArray)] from rfl) (Reps.none _ _))); intro v618 w3 ho4 hb hg_ hnew_; clear hg_ hnew_; (first | rw [← Ny617.out] at ho4 | (simp only [Int.reduceToNat] at ho4; rw [← Ny617.out] at ho4)); have n0_ := Aside0.mk (Kd.R_lower ho4 (below_size (by repeat (first | (with_reducible first | exact HB.out | apply below_alloc | apply pw_below_drewN | apply below_drew1) | exact HB.out)))); have n1_ := Aside0.mk (below_step (by repeat (first | (with_reducible first | exact HB.out | apply below_alloc | apply pw_below_drewN | apply below_drew1) | exact HB.out)) hb); clear HB; have HO619 := n0_; have HB := n1_; clear n0_ n1_; clear hb ho4))
 go_loopg [5, 6] k (fun kq v5 v6 w' => ∃ (x5_1 : List ByteArray) (x6_1 : Int), v6 = .int .i64 x6_1 ∧ Aside0 (squelchref05_split.l0 kq a0 a1 x5_1 x6_1 = some r) ∧ Aside0 (kq ≤ k) ∧ Aside0 (Kd.R Kd.string 9 w' w.heap.size (fun _ => True) v5 x5_1) ∧ Aside0 (Below w.heap.size w w'))
 case atStart => exact ⟨(y617), (0), (by first | rfl | (simp; done) | (simp [*]; done) | (simp; exact (fun l : List UInt8 => (by cases l <;> rfl : l.isEmpty = !(l != []))) _)), H', ⟨Nat.le_refl _⟩, ⟨by (with_reducible repeat (first | apply Kd.R_alloc | apply Kd.R_drewN | apply Kd.R_drew)); exact HO619.out⟩, ⟨by repeat (first | (with_reducible first | exact HB.out | apply below_alloc | apply pw_below_drewN | apply below_drew1) | exact HB.out)⟩⟩
 case round =>
  clear H'
  try clear p2
  obtain ⟨x5_1, x6_1, rfl, HA, HK1, HO_5, HB⟩ := hrel
  cases gk with
  | zero => exact absurd HA.out (by simp [squelchref05_split.l0])
  | succ k1 =>
   have H := HA.out
   clear HA
   simp only [squelchref05_split.l0] at H
   by_cases c5 : x6_1 < (a0.size : Int)
   ·rw [if_pos c5] at H
    have c5b0 : decide (x6_1 < (a0.size : Int)) = true := decide_eq_true c5
    clear c5
    by_cases c6 : 0 ≤ x6_1
    ·rw [if_pos c6] at H
     have c6b0 : decide (0 ≤ x6_1) = true := decide_eq_true c6
     clear c6
     by_cases c8 : (bt a0 x6_1) = a1
     ·rw [if_pos c8] at H
      have c8b0 : ((bt a0 x6_1) == a1) = true := beq_iff_eq.mpr c8
      have c8b1 : ((bt a0 x6_1) != a1) = false := bne_eq_false_iff_eq.mpr c8
      clear c8
      by_cases c9 : x5_1.length < 8796093022208
      ·rw [if_pos c9] at H
       have LMc9 := Aside0.mk c9
       clear c9
       obtain ⟨y620, hy620⟩ : ∃ y_ : List ByteArray, y_ = (x5_1 ++ [(⟨#[]⟩ : ByteArray)]) := ⟨_, rfl⟩
       replace H : (squelchref05_split.l0 k1 a0 a1 y620 (wrap64 (x6_1 + 1))) = some r := by first | (rw [hy620]; with_reducible exact H) | (have H2_ := (Option.bind_some _ _).symm.trans H; rw [hy620]; with_reducible exact H2_) | (have H2_ := (Option.bind_some _ _).symm.trans H; with_reducible exact H2_) | with_reducible exact H | (rw [hy620]; exact H) | exact H
       have Ny620 := Aside0.mk hy620
       clear hy620
       have H' := Aside0.mk H
       clear H
       have p7 : 0 ≤ (x6_1 : Int) := of_decide_eq_true (by first | (with_reducible assumption) | assumption)
       have q7 : x6_1 < (a0.size : Int) := of_decide_eq_true (by first | (with_reducible assumption) | assumption)
       have hx7 := bt_at a0 x6_1
       replace p7 := eq_true p7
       replace q7 := eq_true q7
       go_wp2_with (first | ((with_reducible refine gate_builtin (b := .append) (xs := #[.tmp 19, .tmp 20]) rfl ?_); at_builtin; refine Kd.R_append Kd.string (w0 := w) w.heap.size rfl (.tmp 19) (.tmp 20) 121 9 (.string ⟨#[]⟩) 16 rfl Tryd.underlying121 info9 rfl (by decide) (by omega) u5 x5_1 (⟨#[]⟩ : ByteArray) [.string (⟨#[]⟩ : ByteArray)] (fun _ => True) (fun _ => False) rfl rfl ?aP (fun _ hk => hk.elim) ?aF ?aO ?aB ?aS ?aL ?_; (case aP => exact rfl); (case aB => exact (by repeat (first | (with_reducible first | exact HB.out | apply below_alloc | apply pw_below_drewN | apply below_drew1) | exact HB.out))); (case aF => exact (fun _ _ => trivial)); (case aO => exact (by (with_reducible repeat (first | apply Kd.R_alloc | apply Kd.R_drewN | apply Kd.R_drew)); exact HO_5.out)); (case aS => exact (below_size (by repeat (first | (with_reducible first | exact HB.out | apply below_alloc | apply pw_below_drewN | apply below_drew1) | exact HB.out)))); (case aL => have := LMc9.out; omega); intro v621 w10 ho hb hg hat; rw [← Ny620.out] at ho; have n0_ := Aside0.mk (hb); have n1_ := Aside0.mk (ho); clear HB; clear HO_5; have HB := n0_; have HO622 := n1_; clear n0_ n1_; clear ho hb hg hat))
       go_roundg k1
       case measure => have := HK1.out; omega
       case rel => exact ⟨(y620), (wrap64 (x6_1 + 1)), (by first | rfl | (simp; done) | (simp [*]; done) | (simp; exact (fun l : List UInt8 => (by cases l <;> rfl : l.isEmpty = !(l != []))) _)), H', ⟨by have := HK1.out; omega⟩, ⟨by (with_reducible repeat (first | apply Kd.R_alloc | apply Kd.R_drewN | apply Kd.R_drew)); exact HO622.out⟩, ⟨by repeat (first | (with_reducible first | exact HB.out | apply below_alloc | apply pw_below_drewN | apply below_drew1) | exact HB.out)⟩⟩
      ·rw [if_neg c9] at H
       exact absurd H (by simp)
     ·rw [if_neg c8] at H
      have c8b0 : ((bt a0 x6_1) == a1) = false := beq_eq_false_iff_ne.mpr c8
      have c8b1 : ((bt a0 x6_1) != a1) = true := bne_iff_ne.mpr c8
      obtain ⟨ji11, hji11⟩ : ∃ j_ : Int, (wrap64 ((x5_1.length : Int) - 1)) = j_ := ⟨_, rfl⟩
      replace H : (if 0 ≤ (ji11) then (if (ji11) < (x5_1.length : Int) then (if x6_1 ≤ (wrap64 (x6_1 + 1)) then (if (wrap64 (x6_1 + 1)) ≤ (a0.size : Int) then (if (rdOf ByteArray.empty x5_1 (ji11)).size + (a0.extract (x6_1 : Int).toNat ((wrap64 (x6_1 + 1)) : Int).toNat).size ≤ 9223372036854775807 then (squelchref05_split.l0 k1 a0 a1 (x5_1.set ((ji11) : Int).toNat ((rdOf ByteArray.empty x5_1 (ji11)) ++ (a0.extract (x6_1 : Int).toNat ((wrap64 (x6_1 + 1)) : Int).toNat))) (wrap64 (x6_1 + 1))) else (none)) else (none)) else (none)) else (none)) else (none)) = some r := by first | (rw [hji11] at H; exact H) | (simp only [hji11] at H ⊢; exact H)
      have hji11w : (IntKind.i64.wrap ((x5_1.length : Int) - 1)) = ji11 := (i64_w _).trans hji11
      by_cases c12 : 0 ≤ (ji11)
      ·rw [if_pos c12] at H
       have c12b0 : decide (0 ≤ (ji11)) = true := decide_eq_true c12
       clear c12
       by_cases c13 : (ji11) < (x5_1.length : Int)
       ·rw [if_pos c13] at H
        have c13b0 : decide ((ji11) < (x5_1.length : Int)) = true := decide_eq_true c13
        clear c13
        have c14b0 := eq_true (of_decide_eq_true (by first | (with_reducible assumption) | assumption) : 0 ≤ x6_1)
        by_cases c15 : x6_1 ≤ (wrap64 (x6_1 + 1))
        ·rw [if_pos c15] at H
         have c15b0 := eq_true c15
         have c15b1 : decide (x6_1 ≤ (wrap64 (x6_1 + 1))) = true := decide_eq_true c15
         by_cases c16 : (wrap64 (x6_1 + 1)) ≤ (a0.size : Int)
         ·rw [if_pos c16] at H
          have c16b0 := eq_true c16
          have c16b1 : decide ((wrap64 (x6_1 + 1)) ≤ (a0.size : Int)) = true := decide_eq_true c16
          by_cases c17 : (rdOf ByteArray.empty x5_1 (ji11)).size + (a0.extract (x6_1 : Int).toNat ((wrap64 (x6_1 + 1)) : Int).toNat).size ≤ 9223372036854775807
          ·rw [if_pos c17] at H
           have c17b0 := eq_true c17
           have c17b1 : decide ((rdOf ByteArray.empty x5_1 (ji11)).size + (a0.extract (x6_1 : Int).toNat ((wrap64 (x6_1 + 1)) : Int).toNat).size ≤ 9223372036854775807) = true := decide_eq_true c17
           try have c17b2 : (9223372036854775807 < (rdOf ByteArray.empty x5_1 (ji11)).size + (a0.extract (x6_1 : Int).toNat ((wrap64 (x6_1 + 1)) : Int).toNat).size) = False := eq_false (Nat.not_lt.2 c17)
           (try have c17b3 : (9223372036854775807 < (rdOf ByteArray.empty x5_1 (ji11)).size + (((wrap64 (x6_1 + 1))).toNat - (x6_1).toNat)) = False := eq_false (Nat.not_lt.2 (by have hx_ := c17; simp only [ByteArray.size_extract] at hx_; omega)))
           obtain ⟨y624, hy624⟩ : ∃ y_ : List ByteArray, y_ = (x5_1.set ((ji11) : Int).toNat ((rdOf ByteArray.empty x5_1 (ji11)) ++ (a0.extract (x6_1 : Int).toNat ((wrap64 (x6_1 + 1)) : Int).toNat))) := ⟨_, rfl⟩
           replace H : (squelchref05_split.l0 k1 a0 a1 y624 (wrap64 (x6_1 + 1))) = some r := by first | (rw [hy624]; with_reducible exact H) | (have H2_ := (Option.bind_some _ _).symm.trans H; rw [hy624]; with_reducible exact H2_) | (have H2_ := (Option.bind_some _ _).symm.trans H; with_reducible exact H2_) | with_reducible exact H | (rw [hy624]; exact H) | exact H
           have Ny624 := Aside0.mk hy624
           clear hy624
           have H' := Aside0.mk H
           clear H
           have p7 : 0 ≤ (x6_1 : Int) := of_decide_eq_true (by first | (with_reducible assumption) | assumption)
           have q7 : x6_1 < (a0.size : Int) := of_decide_eq_true (by first | (with_reducible assumption) | assumption)
           have hx7 := bt_at a0 x6_1
           replace p7 := eq_true p7
           replace q7 := eq_true q7
           try go_wp2
           have n0_ := Aside0.mk (Kd.R_drew HO_5.out)
           have n1_ := Aside0.mk (below_drew1 HB.out)
           clear HO_5
           clear HB
           have HO_5 := n0_
           have HB := n1_
           clear n0_ n1_
           obtain ⟨Ao20, co20, eo20⟩ := Kd.R_slice HO_5.out
           (first | subst eo20 | (injection eo20 with f1_ f2_ f3_; have f4_ := f1_.symm; have f5_ := f3_.symm; clear f1_ f2_ f3_; subst f4_; subst f5_))
           have p623 : 0 ≤ ((ji11) : Int) := of_decide_eq_true (by first | (with_reducible assumption) | assumption)
           have q623 : (ji11) < (x5_1.length : Int) := of_decide_eq_true (by first | (with_reducible assumption) | assumption)
           obtain ⟨ad623, e623, hx623_0⟩ := Kd.at_string (Kd.R_reads' HO_5.out).2.2 (ji11) p623 q623
           cases e623
           replace p623 := eq_true p623
           replace q623 := eq_true q623
           have p18 : 0 ≤ ((ji11) : Int) := of_decide_eq_true (by first | (with_reducible assumption) | assumption)
           have q18 : ((ji11) : Int) < ((x5_1.length : Int) : Int) := of_decide_eq_true (by first | (with_reducible assumption) | assumption)
           obtain ⟨go18, co18, eo18, gb18, gl18, cl18, HG18⟩ := Kd.R_form HO_5.out (by omega)
           (first | cases eo18 | (injection eo18 with ea_ en_ ec_; (first | subst ea_ | (injection ea_ with ea_; subst ea_)); subst ec_; clear en_))
           have GB18 := Aside0.mk gb18
           have GG18 := Aside0.mk HG18
           clear gb18 gl18 HG18
           (first | simp only [add_plain] at hx623_0 | skip)
           obtain ⟨hx18_0, hf18_0⟩ := Kd.R_celln (⟨#[]⟩ : ByteArray) HO_5.out ((ji11) : Int) p18 q18
           replace p18 := eq_true p18
           replace q18 := eq_true q18
           have HP21 := Kd.R_putn HO_5.out ((ji11) : Int) ((rdOf ByteArray.empty x5_1 (ji11)) ++ (a0.extract (x6_1 : Int).toNat ((wrap64 (x6_1 + 1)) : Int).toNat))
           rw [← Ny624.out] at HP21
           have HQ21 := Aside0.mk HP21
           clear HP21
           refine start_ (n := 18) (S := fun w' => w'.cell? ⟨go18, ((ji11)).toNat, none⟩ = some (.string (rdOf ByteArray.empty x5_1 (ji11)))) (ds := [17]) #[false, false, false, false, false, false, false, false, false, false, false, false, false, false, false, false, false, false] (by kernel_rfl) rfl rfl (hx623_0) (fun hHeld => ?_); refine with_tabW squelchref05_split.tab7 squelchref05_split.bits7 (fun HT_ HW_ => ?_)
           generalize wr.drew = w19 at HO_5 HB GG18 HQ21 hf18_0 hx18_0 hx623_0 hHeld ⊢
           refine pure_ (i := 0) (N := some 22) (v := ?_) (a' := ?_) #[true, false, false, false, false, false, false, false, false, false, false, false, false, false, false, false, false, false] rfl rfl (any_of HT_.out (by kernel_rfl)) (fun _ _ _ h => h) (Or.inl ⟨by rfl, ?_⟩) ?_ ?_
           rotate_left
           ·intro w'
            go_simp
            with_reducible rfl
           rotate_left
           ·simp only [Act.put, List.setIfInBounds_toArray, List.set_cons_zero, List.set_cons_succ, i64_w, i32_w]
            rfl
           refine pure_ (i := 1) (N := some 23) (v := ?_) (a' := ?_) #[true, true, false, false, false, false, false, false, false, false, false, false, false, false, false, false, false, false] rfl rfl (any_of HT_.out (by kernel_rfl)) (fun _ _ _ h => h) (Or.inl ⟨by rfl, ?_⟩) ?_ ?_
           rotate_left
           ·intro w'
            go_simp
            with_reducible rfl
           rotate_left
           ·simp only [Act.put, List.setIfInBounds_toArray, List.set_cons_zero, List.set_cons_succ, i64_w, i32_w]
            rfl
           refine pure_ (i := 2) (N := some 24) (v := ?_) (a' := ?_) #[true, true, true, false, false, false, false, false, false, false, false, false, false, false, false, false, false, false] rfl rfl (any_of HT_.out (by kernel_rfl)) (fun _ _ _ h => h) (Or.inl ⟨by rfl, ?_⟩) ?_ ?_
           rotate_left
           ·intro w'
            go_simp
            with_reducible rfl
           rotate_left
           ·simp only [Act.put, List.setIfInBounds_toArray, List.set_cons_zero, List.set_cons_succ, i64_w, i32_w]
            rfl
           refine pure_ (i := 3) (N := some 25) (v := ?_) (a' := ?_) #[true, true, true, true, false, false, false, false, false, false, false, false, false, false, false, false, false, false] rfl rfl (any_of HT_.out (by kernel_rfl)) (fun _ _ _ h => h) (Or.inl ⟨by rfl, ?_⟩) ?_ ?_
           rotate_left
           ·intro w'
            go_simp
            with_reducible rfl
           rotate_left
           ·simp only [Act.put, List.setIfInBounds_toArray, List.set_cons_zero, List.set_cons_succ, i64_w, i32_w]
            rfl
           refine pure_ (i := 4) (N := some 26) (v := ?_) (a' := ?_) #[true, true, true, true, true, false, false, false, false, false, false, false, false, false, false, false, false, false] rfl rfl (any_of HT_.out (by kernel_rfl)) (fun _ _ _ h => h) (Or.inl ⟨by rfl, ?_⟩) ?_ ?_
           rotate_left
           ·intro w'
            go_simp
            with_reducible rfl
           rotate_left
           ·simp only [Act.put, List.setIfInBounds_toArray, List.set_cons_zero, List.set_cons_succ, i64_w, i32_w]
            rfl
           refine pure_ (i := 5) (N := some 27) (v := ?_) (a' := ?_) #[true, true, true, true, true, true, false, false, false, false, false, false, false, false, false, false, false, false] rfl rfl (any_of HT_.out (by kernel_rfl)) (fun _ _ _ h => h) (Or.inl ⟨by rfl, ?_⟩) ?_ ?_
           rotate_left
           ·intro w'
            go_simp
            with_reducible rfl
           rotate_left
           ·simp only [Act.put, List.setIfInBounds_toArray, List.set_cons_zero, List.set_cons_succ, i64_w, i32_w]
            rfl
           refine pure_ (i := 6) (N := some 28) (v := ?_) (a' := ?_) #[true, true, true, true, true, true, true, false, false, false, false, false, false, false, false, false, false, false] rfl rfl (any_of HT_.out (by kernel_rfl)) (fun _ _ _ h => h) (Or.inl ⟨by rfl, ?_⟩) ?_ ?_
           rotate_left
           ·intro w'
            go_simp
            with_reducible rfl
           rotate_left
           ·simp only [Act.put, List.setIfInBounds_toArray, List.set_cons_zero, List.set_cons_succ, i64_w, i32_w]
            rfl
           refine pure_ (i := 7) (N := some 29) (v := ?_) (a' := ?_) #[true, true, true, true, true, true, true, true, false, false, false, false, false, false, false, false, false, false] rfl rfl (any_of HT_.out (by kernel_rfl)) (fun _ _ _ h => h) (Or.inl ⟨by rfl, ?_⟩) ?_ ?_
           rotate_left
           ·intro w'
            go_simp
            with_reducible rfl
           rotate_left
           ·simp only [Act.put, List.setIfInBounds_toArray, List.set_cons_zero, List.set_cons_succ, i64_w, i32_w]
            rfl
           refine pure_ (i := 8) (N := some 30) (v := ?_) (a' := ?_) #[true, true, true, true, true, true, true, true, true, false, false, false, false, false, false, false, false, false] rfl rfl (any_of HT_.out (by kernel_rfl)) (fun _ _ _ h => h) (Or.inl ⟨by rfl, ?_⟩) ?_ ?_
           rotate_left
           ·intro w'
            go_simp
            with_reducible rfl
           rotate_left
           ·simp only [Act.put, List.setIfInBounds_toArray, List.set_cons_zero, List.set_cons_succ, i64_w, i32_w]
            rfl
           refine pure_ (i := 10) (N := some 32) (v := ?_) (a' := ?_) #[true, true, true, true, true, true, true, true, true, false, true, false, false, false, false, false, false, false] rfl rfl (any_of HT_.out (by kernel_rfl)) (fun _ _ _ h => h) (Or.inl ⟨by rfl, ?_⟩) ?_ ?_
           rotate_left
           ·intro w'
            go_simp
            with_reducible rfl
           rotate_left
           ·simp only [Act.put, List.setIfInBounds_toArray, List.set_cons_zero, List.set_cons_succ, i64_w, i32_w]
            rfl
           refine pure_ (i := 11) (N := some 33) (v := ?_) (a' := ?_) #[true, true, true, true, true, true, true, true, true, false, true, true, false, false, false, false, false, false] rfl rfl (any_of HT_.out (by kernel_rfl)) (fun _ _ _ h => h) (Or.inl ⟨by rfl, ?_⟩) ?_ ?_
           rotate_left
           ·intro w'
            go_simp
            with_reducible rfl
           rotate_left
           ·simp only [Act.put, List.setIfInBounds_toArray, List.set_cons_zero, List.set_cons_succ, i64_w, i32_w]
            rfl
           refine pure_ (i := 12) (N := some 34) (v := ?_) (a' := ?_) #[true, true, true, true, true, true, true, true, true, false, true, true, true, false, false, false, false, false] rfl rfl (any_of HT_.out (by kernel_rfl)) (fun _ _ _ h => h) (Or.inl ⟨by rfl, ?_⟩) ?_ ?_
           rotate_left
           ·intro w'
            go_simp
            with_reducible rfl
           rotate_left
           ·simp only [Act.put, List.setIfInBounds_toArray, List.set_cons_zero, List.set_cons_succ, i64_w, i32_w]
            rfl
           refine pure_ (i := 13) (N := some 35) (v := ?_) (a' := ?_) #[true, true, true, true, true, true, true, true, true, false, true, true, true, true, false, false, false, false] rfl rfl (any_of HT_.out (by kernel_rfl)) (fun _ _ _ h => h) (Or.inl ⟨by rfl, ?_⟩) ?_ ?_
           rotate_left
           ·intro w'
            go_simp
            with_reducible rfl
           rotate_left
           ·simp only [Act.put, List.setIfInBounds_toArray, List.set_cons_zero, List.set_cons_succ, i64_w, i32_w]
            rfl
           refine pure_ (i := 14) (N := some 36) (v := ?_) (a' := ?_) #[true, true, true, true, true, true, true, true, true, false, true, true, true, true, true, false, false, false] rfl rfl (any_of HT_.out (by kernel_rfl)) (fun _ _ _ h => h) (Or.inl ⟨by rfl, ?_⟩) ?_ ?_
           rotate_left
           ·intro w'
            go_simp
            with_reducible rfl
           rotate_left
           ·simp only [Act.put, List.setIfInBounds_toArray, List.set_cons_zero, List.set_cons_succ, i64_w, i32_w]
            rfl
           refine take_ (i := 9) (N := some 31) (v := ?_) (a' := ?_) #[true, true, true, true, true, true, true, true, true, true, true, true, true, true, true, false, false, false] rfl rfl (take_ofW HT_.out HW_.out (by kernel_rfl)) (fun _ _ _ h => h) (Or.inl ⟨by rfl, ?_⟩) hHeld ?_ ?_
           rotate_left
           ·intro w' s0
            go_simp
            with_reducible rfl
           rotate_left
           ·simp only [Act.put, List.setIfInBounds_toArray, List.set_cons_zero, List.set_cons_succ, i64_w, i32_w]
            rfl
           refine pure_ (i := 15) (N := some 37) (v := ?_) (a' := ?_) #[true, true, true, true, true, true, true, true, true, true, true, true, true, true, true, true, false, false] rfl rfl (any_of HT_.out (by kernel_rfl)) (fun _ _ _ h => h) (Or.inl ⟨by rfl, ?_⟩) ?_ ?_
           rotate_left
           ·intro w'
            go_simp
            with_reducible rfl
           rotate_left
           ·simp only [Act.put, List.setIfInBounds_toArray, List.set_cons_zero, List.set_cons_succ, i64_w, i32_w]
            rfl
           refine pure_ (i := 16) (N := some 38) (v := ?_) (a' := ?_) #[true, true, true, true, true, true, true, true, true, true, true, true, true, true, true, true, true, false] rfl rfl (any_of HT_.out (by kernel_rfl)) (fun _ _ _ h => h) (Or.inl ⟨by rfl, ?_⟩) ?_ ?_
           rotate_left
           ·intro w'
            go_simp
            with_reducible rfl
           rotate_left
           ·simp only [Act.put, List.setIfInBounds_toArray, List.set_cons_zero, List.set_cons_succ, i64_w, i32_w]
            rfl
           refine last_ (i := 17) (N := none) #[true, true, true, true, true, true, true, true, true, true, true, true, true, true, true, true, true, true] rfl rfl (one_of HT_.out (by kernel_rfl)) (by decide) (fun K hK => ?_)
           refine skip_ (w1 := ?_) (by rfl) rfl ?_ ?_
           rotate_left
           ·go_simp
            rfl
           refine hK.out _ _ ?_
           clear hK K
           refine done_ (done_of HT_.out (by kernel_rfl)) ?_
           try go_wp2
           go_roundg k1
           case measure => have := HK1.out; omega
           case rel => exact ⟨(y624), (wrap64 (x6_1 + 1)), (by first | rfl | (simp; done) | (simp [*]; done) | (simp; exact (fun l : List UInt8 => (by cases l <;> rfl : l.isEmpty = !(l != []))) _)), H', ⟨by have := HK1.out; omega⟩, ⟨by (with_reducible repeat (first | apply Kd.R_alloc | apply Kd.R_drewN | apply Kd.R_drew)); exact HQ21.out⟩, ⟨by repeat (first | (with_reducible first | exact HB.out | apply below_alloc | apply pw_below_drewN | apply below_drew1 | refine below_set ?_ GB18.out) | exact HB.out)⟩⟩
          ·rw [if_neg c17] at H
           exact absurd H (by simp)
         ·rw [if_neg c16] at H
          exact absurd H (by simp)
        ·rw [if_neg c15] at H
         exact absurd H (by simp)
       ·rw [if_neg c13] at H
        exact absurd H (by simp)
      ·rw [if_neg c12] at H
       exact absurd H (by simp)
    ·rw [if_neg c6] at H
     exact absurd H (by simp)
   ·rw [if_neg c5] at H
    have c5b0 : decide (x6_1 < (a0.size : Int)) = false := decide_eq_false c5
    clear c5
    obtain rfl := Option.some.inj H
    go_wp2
    go_ret
    exact ⟨_, by first | rfl | (simp [errW_none, errW_some] <;> rfl) | (simp [*, errW_none, errW_some] <;> rfl), by (with_reducible repeat (first | apply Kd.R_alloc | apply Kd.R_drewN | apply Kd.R_drew)); exact HO_5.out, by repeat (first | (with_reducible first | exact HB.out | apply below_alloc | apply pw_below_drewN | apply below_drew1) | exact HB.out)⟩

end Go.Proofs.YtpmieapgbdbabaaDoor.QAll
end

section
/- Walks, written by a program of this session (wip/pp): a Go function comes to what the Lean function beside it tells. -/
namespace Go.Proofs.YtpmieapgbdbabaaDoor.QAll
open Go.RowKit Go.Proofs.YtpmieapgbdbabaaDoorW.PrintWords Go.Proofs.YtpmieapgbdbabaaDoorW.PrintLast Go.Proofs.YtpmieapgbdbabaaDoorW.PrintMore
set_option linter.unusedVariables false
set_option linter.unusedSimpArgs false

mutual
def squelchref05_Parse.j1 : Nat → ByteArray → Int → Option ((List (S37)) × Int)
 | 0, _, _ => none
 | k + 1, x0, x4 => if x4 = (x0.size : Int) then (some (([] : List (S37)), 2)) else (if 0 ≤ (wrap64 (x4 + 1)) then (if (wrap64 (x4 + 1)) ≤ (x0.size : Int) then ((squelchref05_split.f k (x0.extract ((wrap64 (x4 + 1)) : Int).toNat x0.size) 44).bind fun t626 => (if 0 ≤ x4 then (if x4 ≤ (x0.size : Int) then ((squelchref04_Parse.f k (x0.extract 0 (x4 : Int).toNat)).bind fun bt629 => (if 0 < (t626.length : Int) then ((squelchref04_Parse.f k (rdOf ByteArray.empty t626 0)).bind fun bt634 => (if bt629.2.2 = true then (squelchref05_Parse.j2 k t626 (!bt634.2.2) bt629.1 bt629.2.1 bt634.1 bt634.2.1) else (squelchref05_Parse.j2 k t626 true bt629.1 bt629.2.1 bt634.1 bt634.2.1))) else (none))) else (none)) else (none))) else (none)) else (none))
def squelchref05_Parse.j2 : Nat → List ByteArray → Bool → ByteArray → Int → ByteArray → Int → Option ((List (S37)) × Int)
 | 0, _, _, _, _, _, _ => none
 | k + 1, x5, x59, x633000, x633001, x638000, x638001 => if x59 = true then (some (([] : List (S37)), 12)) else (squelchref05_Parse.l1 k x5 0 1 (([(⟨(⟨x638000, x638001⟩ : S23), true⟩ : S37), (⟨(⟨x633000, x633001⟩ : S23), false⟩ : S37)] : List (S37))))
def squelchref05_Parse.l1 : Nat → List ByteArray → Int → Int → List (S37) → Option ((List (S37)) × Int)
 | 0, _, _, _, _ => none
 | k + 1, x5, x11, x12, x642000 => if x12 < (x5.length : Int) then (if 0 ≤ x12 then (if x12 = 9 then (some (([] : List (S37)), 11)) else (if ((rdOf ByteArray.empty x5 x12).size : Int) > 0 then (if 0 ≤ (wrap64 (((rdOf ByteArray.empty x5 x12).size : Int) - 1)) then (if (wrap64 (((rdOf ByteArray.empty x5 x12).size : Int) - 1)) < ((rdOf ByteArray.empty x5 x12).size : Int) then (squelchref05_Parse.j4 k x5 x11 x12 (rdOf ByteArray.empty x5 x12) ((bt (rdOf ByteArray.empty x5 x12) (wrap64 (((rdOf ByteArray.empty x5 x12).size : Int) - 1))) == 42) x642000) else (none)) else (none)) else (squelchref05_Parse.j4 k x5 x11 x12 (rdOf ByteArray.empty x5 x12) false x642000))) else (none)) else (if x11 > 1 then (some (([] : List (S37)), 2)) else (some (x642000, 0)))
def squelchref05_Parse.j4 : Nat → List ByteArray → Int → Int → ByteArray → Bool → List (S37) → Option ((List (S37)) × Int)
 | 0, _, _, _, _, _, _ => none
 | k + 1, x5, x11, x12, x13, x14, x642000 => if x14 = true then (if 0 ≤ (wrap64 ((x13.size : Int) - 1)) then (if (wrap64 ((x13.size : Int) - 1)) ≤ (x13.size : Int) then (squelchref05_Parse.j5 k x5 x11 x12 (x13.extract 0 ((wrap64 ((x13.size : Int) - 1)) : Int).toNat) x14 x642000) else (none)) else (none)) else (squelchref05_Parse.j5 k x5 x11 x12 x13 x14 x642000)
def squelchref05_Parse.j5 : Nat → List ByteArray → Int → Int → ByteArray → Bool → List (S37) → Option ((List (S37)) × Int)
 | 0, _, _, _, _, _, _ => none
 | k + 1, x5, x11, x12, x13, x14, x642000 => (squelchref04_Parse.f k x13).bind fun bt643 => (if bt643.2.2 = true then (if x642000.length < 4398046511104 then ((some (x642000 ++ [(⟨(⟨bt643.1, bt643.2.1⟩ : S23), false⟩ : S37)] : List (S37))).bind fun y647 => (if x14 = true then (squelchref05_Parse.l2 k x5 (wrap64 (x11 + 1)) x12 2 y647) else (squelchref05_Parse.l1 k x5 x11 (wrap64 (x12 + 1)) y647))) else (none)) else (some (([] : List (S37)), 12)))
def squelchref05_Parse.l2 : Nat → List ByteArray → Int → Int → Int → List (S37) → Option ((List (S37)) × Int)
 | 0, _, _, _, _, _ => none
 | k + 1, x5, x11, x12, x17, x642000 => if x17 < (x642000.length : Int) then (if 0 ≤ x17 then (squelchref05_Parse.l2 k x5 x11 x12 (wrap64 (x17 + 1)) (x642000.set (x17 : Int).toNat (⟨(⟨(rd_T37 x642000 x17).f0.f0, (rd_T37 x642000 x17).f0.f1⟩ : S23), true⟩ : S37))) else (none)) else (squelchref05_Parse.l1 k x5 x11 (wrap64 (x12 + 1)) x642000)
def squelchref05_Parse.l0 : Nat → ByteArray → Int → Option ((List (S37)) × Int)
 | 0, _, _ => none
 | k + 1, x0, x4 => if x4 < (x0.size : Int) then (if 0 ≤ x4 then (if (bt x0 x4) = 62 then (squelchref05_Parse.j1 k x0 x4) else (squelchref05_Parse.l0 k x0 (wrap64 (x4 + 1)))) else (none)) else (squelchref05_Parse.j1 k x0 x4)
end
def squelchref05_Parse.f (k : Nat) (a0 : ByteArray) : Option ((List (S37)) × Int) := squelchref05_Parse.l0 k a0 0
set_option maxHeartbeats 8000000 in
set_option maxRecDepth 100000 in
theorem squelchref05_Parse.calls (k : Nat) (a0 : ByteArray) (r1 : List (S37)) (r2 : Int) (w : World) (h : squelchref05_Parse.f k a0 = some (r1, r2)) :
  Calls Tryd.prog 57 #[.string a0] w fun e w' => ∃ v0_ : Value, e = .returned (.tuple #[.agg #[v0_], .int .i64 r2]) ∧ Kd.R k37 37 w' w.heap.size (fun _ => True) v0_ r1 ∧ Below w.heap.size w w' := by
 have hu31 := Tryd.underlying31
 have hu23 := Tryd.underlying23
 have hu37 := Tryd.underlying37
 have HB := Aside0.mk (Below.refl w.heap.size w)
 have H : (squelchref05_Parse.l0 k a0 0) = some (r1, r2) := h
 clear h
 have HC2 := Aside0.mk H
 clear H
 go_enter Tryd.func57, Tryd.ntmps57
 go_upto_block 0 with (first | ((with_reducible refine gate_dst (N := 2) rfl ?_); (try (refine gate_guard (by rfl) ?_; dsimp only)); refine box_event ?hg (N := 2) ?hd (cs := #[.slice none 0 0]) (t := 31) ?hr ?_; (case hd => rfl); (case hg => rfl); (case hr => first | (go_simp; done) | (go_simp; rfl)); intro gb625 hg w3 hbox hb; have n0_ := Aside0.mk (below_step (by repeat (first | (with_reducible first | exact HB.out | apply below_alloc | apply pw_below_drewN | apply below_drew1) | exact HB.out)) hb); have n1_ := Aside0.mk (hbox); have n2_ := Aside0.mk ((by rw [hg]; exact (below_size (by repeat (first | (with_reducible first | exact HB.out | apply below_alloc | apply pw_below_drewN | apply below_drew1) | exact HB.out))) : w.heap.size ≤ gb625)); have n3_ := Aside0.mk ((by rw [hg]; exact (below_size (by repeat (first | (with_reducible first | exact HB.out | apply below_alloc | apply pw_below_drewN | apply below_drew1) | exact HB.out))) : w.heap.size ≤ gb625)); clear HB; have HB := n0_; have BK625 := n1_; have GW625 := n2_; have GE625 := n3_; clear n0_ n1_ n2_ n3_; clear hb hbox hg))
 (try simp only [Act.put, List.setIfInBounds_toArray, List.set_cons_zero, List.set_cons_succ])
 go_cut [4] (fun v4 wc => ∃ (kq : Nat) (x4_1 : Int), v4 = .int .i64 x4_1 ∧ Aside0 (squelchref05_Parse.j1 kq a0 x4_1 = some (r1, r2)) ∧ Aside0 (kq ≤ k) ∧ Aside0 (wc.heap[gb625]? = some (.cells #[(.slice none 0 0)] 31 (0, 0))) ∧ Aside0 (Below w.heap.size w wc))
 case first =>
  have H := HC2.out
  clear HC2
  have H' := Aside0.mk H
  clear H
  go_wp2
  go_loopg [4] k (fun kq v4 w' => ∃ (x4_1 : Int), v4 = .int .i64 x4_1 ∧ Aside0 (squelchref05_Parse.l0 kq a0 x4_1 = some (r1, r2)) ∧ Aside0 (kq ≤ k) ∧ Aside0 (w'.heap[gb625]? = some (.cells #[(.slice none 0 0)] 31 (0, 0))) ∧ Aside0 (Below w.heap.size w w'))
  case atStart => exact ⟨(0), (by first | rfl | (simp; done) | (simp [*]; done) | (simp; exact (fun l : List UInt8 => (by cases l <;> rfl : l.isEmpty = !(l != []))) _)), H', ⟨Nat.le_refl _⟩, ⟨by (with_reducible repeat (first | refine blk_drewN ?_ _ | refine blk_drew ?_ | refine blk_alloc ?_ _)); exact BK625.out⟩, ⟨by repeat (first | (with_reducible first | exact HB.out | apply below_alloc | apply pw_below_drewN | apply below_drew1 | refine below_set ?_ GE625.out) | exact HB.out)⟩⟩
  case round =>
   clear H'
   try clear p2
   obtain ⟨x4_1, rfl, HA, HK1, BK625, HB⟩ := hrel
   cases gk with
   | zero => exact absurd HA.out (by simp [squelchref05_Parse.l0])
   | succ k1 =>
    have H := HA.out
    clear HA
    simp only [squelchref05_Parse.l0] at H
    by_cases c4 : x4_1 < (a0.size : Int)
    ·rw [if_pos c4] at H
     have c4b0 : decide (x4_1 < (a0.size : Int)) = true := decide_eq_true c4
     clear c4
     (first | rw [c4b0] | (simp only [i64_w, i32_w]; rw [c4b0]) | skip)
     by_cases c5 : 0 ≤ x4_1
     ·rw [if_pos c5] at H
      have c5b0 : decide (0 ≤ x4_1) = true := decide_eq_true c5
      clear c5
      by_cases c7 : (bt a0 x4_1) = 62
      ·rw [if_pos c7] at H
       have c7b0 : ((bt a0 x4_1) == 62) = true := beq_iff_eq.mpr c7
       have c7b1 : ((bt a0 x4_1) != 62) = false := bne_eq_false_iff_eq.mpr c7
       clear c7
       have H' := Aside0.mk H
       clear H
       have p6 : 0 ≤ (x4_1 : Int) := of_decide_eq_true (by first | (with_reducible assumption) | assumption)
       have q6 : x4_1 < (a0.size : Int) := of_decide_eq_true (by first | (with_reducible assumption) | assumption)
       have hx6 := bt_at a0 x4_1
       replace p6 := eq_true p6
       replace q6 := eq_true q6
       go_wp2
       go_meet
       case rel => exact ⟨_, (x4_1), (by first | rfl | (simp; done) | (simp [*]; done) | (simp; exact (fun l : List UInt8 => (by cases l <;> rfl : l.isEmpty = !(l != []))) _)), H', ⟨by have := HK1.out; first | omega | exact Nat.le_refl _⟩, ⟨by (with_reducible repeat (first | refine blk_drewN ?_ _ | refine blk_drew ?_ | refine blk_alloc ?_ _)); exact BK625.out⟩, ⟨by repeat (first | (with_reducible first | exact HB.out | apply below_alloc | apply pw_below_drewN | apply below_drew1 | refine below_set ?_ GE625.out) | exact HB.out)⟩⟩
      ·rw [if_neg c7] at H
       have c7b0 : ((bt a0 x4_1) == 62) = false := beq_eq_false_iff_ne.mpr c7
       have c7b1 : ((bt a0 x4_1) != 62) = true := bne_iff_ne.mpr c7
       have H' := Aside0.mk H
       clear H
       have p6 : 0 ≤ (x4_1 : Int) := of_decide_eq_true (by first | (with_reducible assumption) | assumption)
       have q6 : x4_1 < (a0.size : Int) := of_decide_eq_true (by first | (with_reducible assumption) | assumption)
       have hx6 := bt_at a0 x4_1
       replace p6 := eq_true p6
       replace q6 := eq_true q6
       go_wp2
       go_roundg k1
       case measure => have := HK1.out; omega
       case rel => exact ⟨(wrap64 (x4_1 + 1)), (by first | rfl | (simp; done) | (simp [*]; done) | (simp; exact (fun l : List UInt8 => (by cases l <;> rfl : l.isEmpty = !(l != []))) _)), H', ⟨by have := HK1.out; omega⟩, ⟨by (with_reducible repeat (first | refine blk_drewN ?_ _ | refine blk_drew ?_ | refine blk_alloc ?_ _)); exact BK625.out⟩, ⟨by repeat (first | (with_reducible first | exact HB.out | apply below_alloc | apply pw_below_drewN | apply below_drew1 | refine below_set ?_ GE625.out) | exact HB.out)⟩⟩
     ·rw [if_neg c5] at H
      exact absurd H (by simp)
    ·rw [if_neg c4] at H
     have c4b0 : decide (x4_1 < (a0.size : Int)) = false := decide_eq_false c4
     clear c4
     (first | rw [c4b0] | (simp only [i64_w, i32_w]; rw [c4b0]) | skip)
     have H' := Aside0.mk H
     clear H
     go_wp2
     go_meet
     case rel => exact ⟨_, (x4_1), (by first | rfl | (simp; done) | (simp [*]; done) | (simp; exact (fun l : List UInt8 => (by cases l <;> rfl : l.isEmpty = !(l != []))) _)), H', ⟨by have := HK1.out; first | omega | exact Nat.le_refl _⟩, ⟨by (with_reducible repeat (first | refine blk_drewN ?_ _ | refine blk_drew ?_ | refine blk_alloc ?_ _)); exact BK625.out⟩, ⟨by repeat (first | (with_reducible first | exact HB.out | apply below_alloc | apply pw_below_drewN | apply below_drew1 | refine below_set ?_ GE625.out) | exact HB.out)⟩⟩
 case rest =>
  clear HC2
  try clear p2
  try clear c4
  try clear c4b0
  try clear c5
  try clear c5b0
  try clear p6
  try clear q6
  try clear hx6
  try clear c7
  try clear c7b0
  try clear c7b1
  try clear p2
  try clear p6
  try clear q6
  obtain ⟨kq, x4_1, rfl, HA, HJ1, BK625, HB⟩ := hcut
  cases kq with
  | zero => exact absurd HA.out (by simp [squelchref05_Parse.j1])
  | succ kj1 =>
   have H := HA.out
   clear HA
   simp only [squelchref05_Parse.j1] at H
   by_cases c8 : x4_1 = (a0.size : Int)
   ·rw [if_pos c8] at H
    have c8b0 : (x4_1 == (a0.size : Int)) = true := beq_iff_eq.mpr c8
    have c8b1 : (x4_1 != (a0.size : Int)) = false := bne_eq_false_iff_eq.mpr c8
    clear c8
    simp only [Option.some.injEq, Prod.mk.injEq] at H
    obtain ⟨rfl, rfl⟩ := H
    have hcz9_0 : wc.cell? ⟨gb625, 0, none⟩ = some (.slice none 0 0) := (blk_cell BK625.out 0).trans rfl
    have hfz9_0 := blk_frozen BK625.out 0
    go_wp2
    refine bodyPost_ret (results_ct rfl _ _ gb625 31 #[.slice none 0 0] (0, 0) _ rfl (by (with_reducible repeat (first | refine blk_drewN ?_ _ | refine blk_drew ?_ | refine blk_alloc ?_ _)); refine blk_put (cs := #[.slice none 0 0]) ?_ 0 _ rfl; (with_reducible repeat (first | refine blk_drewN ?_ _ | refine blk_drew ?_ | refine blk_alloc ?_ _)); exact BK625.out) Tryd.underlying31 rfl (by kernel_rfl)) rfl ?_
    exact ⟨_, by first | rfl | (simp [errW_none, errW_some] <;> rfl) | (simp [*, errW_none, errW_some] <;> rfl), by first | exact Kd.R_nil _ _ _ _ _ | exact Kd.N_nil _ _ _ _ _ | exact Kd.V_nil _ _ _ _ _ | exact Kd.Q_nil _ _ _ _ _ | exact Kd.S_nil _ _ _ _ _, by repeat (first | (with_reducible first | exact HB.out | apply below_alloc | apply pw_below_drewN | apply below_drew1 | refine below_set ?_ GE625.out) | exact HB.out)⟩
   ·rw [if_neg c8] at H
    have c8b0 : (x4_1 == (a0.size : Int)) = false := beq_eq_false_iff_ne.mpr c8
    have c8b1 : (x4_1 != (a0.size : Int)) = true := bne_iff_ne.mpr c8
    obtain ⟨ji10, hji10⟩ : ∃ j_ : Int, (wrap64 (x4_1 + 1)) = j_ := ⟨_, rfl⟩
    replace H : (if 0 ≤ (ji10) then (if (ji10) ≤ (a0.size : Int) then ((squelchref05_split.f kj1 (a0.extract ((ji10) : Int).toNat a0.size) 44).bind fun t626 => (if 0 ≤ x4_1 then (if x4_1 ≤ (a0.size : Int) then ((squelchref04_Parse.f kj1 (a0.extract 0 (x4_1 : Int).toNat)).bind fun bt629 => (if 0 < (t626.length : Int) then ((squelchref04_Parse.f kj1 (rdOf ByteArray.empty t626 0)).bind fun bt634 => (if bt629.2.2 = true then (squelchref05_Parse.j2 kj1 t626 (!bt634.2.2) bt629.1 bt629.2.1 bt634.1 bt634.2.1) else (squelchref05_Parse.j2 kj1 t626 true bt629.1 bt629.2.1 bt634.1 bt634.2.1))) else (none))) else (none)) else (none))) else (none)) else (none)) = some (r1, r2) := by first | (rw [hji10] at H; exact H) | (simp only [hji10] at H ⊢; exact H)
    have hji10w : (IntKind.i64.wrap (x4_1 + 1)) = ji10 := (i64_w _).trans hji10
    by_cases c11 : 0 ≤ (ji10)
    ·rw [if_pos c11] at H
     have c11b0 := eq_true c11
     have c11b1 : decide (0 ≤ (ji10)) = true := decide_eq_true c11
     clear c11
     by_cases c12 : (ji10) ≤ (a0.size : Int)
     ·rw [if_pos c12] at H
      have c12b0 := eq_true c12
      have c12b1 : decide ((ji10) ≤ (a0.size : Int)) = true := decide_eq_true c12
      clear c12
      replace H := Option.bind_eq_some_iff.mp H
      obtain ⟨t626, A130, H⟩ := H
      replace H : (if 0 ≤ x4_1 then (if x4_1 ≤ (a0.size : Int) then ((squelchref04_Parse.f kj1 (a0.extract 0 (x4_1 : Int).toNat)).bind fun bt629 => (if 0 < (t626.length : Int) then ((squelchref04_Parse.f kj1 (rdOf ByteArray.empty t626 0)).bind fun bt634 => (if bt629.2.2 = true then (squelchref05_Parse.j2 kj1 t626 (!bt634.2.2) bt629.1 bt629.2.1 bt634.1 bt634.2.1) else (squelchref05_Parse.j2 kj1 t626 true bt629.1 bt629.2.1 bt634.1 bt634.2.1))) else (none))) else (none)) else (none)) = some (r1, r2) := H
      have A13 := Aside0.mk A130
      clear A130
      by_cases c14 : 0 ≤ x4_1
      ·rw [if_pos c14] at H
       have c14b0 := eq_true c14
       have c14b1 : decide (0 ≤ x4_1) = true := decide_eq_true c14
       clear c14
       by_cases c15 : x4_1 ≤ (a0.size : Int)
       ·rw [if_pos c15] at H
        have c15b0 := eq_true c15
        have c15b1 : decide (x4_1 ≤ (a0.size : Int)) = true := decide_eq_true c15
        clear c15
        replace H := Option.bind_eq_some_iff.mp H
        obtain ⟨⟨t629, t630, t631⟩, A160, H⟩ := H
        replace H : (if 0 < (t626.length : Int) then ((squelchref04_Parse.f kj1 (rdOf ByteArray.empty t626 0)).bind fun bt634 => (if t631 = true then (squelchref05_Parse.j2 kj1 t626 (!bt634.2.2) t629 t630 bt634.1 bt634.2.1) else (squelchref05_Parse.j2 kj1 t626 true t629 t630 bt634.1 bt634.2.1))) else (none)) = some (r1, r2) := H
        have A16 := Aside0.mk A160
        clear A160
        by_cases c17 : 0 < (t626.length : Int)
        ·rw [if_pos c17] at H
         have c17b0 : decide (0 < (t626.length : Int)) = true := decide_eq_true c17
         have c17b1 : decide (0 < t626.length) = true := decide_eq_true (by omega)
         clear c17
         replace H := Option.bind_eq_some_iff.mp H
         obtain ⟨⟨t634, t635, t636⟩, A180, H⟩ := H
         replace H : (if t631 = true then (squelchref05_Parse.j2 kj1 t626 (!t636) t629 t630 t634 t635) else (squelchref05_Parse.j2 kj1 t626 true t629 t630 t634 t635)) = some (r1, r2) := H
         have A18 := Aside0.mk A180
         clear A180
         have HC19 := Aside0.mk H
         clear H
         go_upto_region 9 with (first | ((with_reducible refine gate_callee (f := 86) rfl ?_); refine goesL_ (some 39) rfl rfl Tryd.func86 (by kernel_rfl) rfl #[.string (a0.extract ((ji10) : Int).toNat a0.size), .int .u8 44] rfl (by (try simp only [List.map_toArray, List.map_cons, List.map_nil]); first | done | (simp only [hji10]; rfl) | rfl | (simp only [List.length_drop, List.length_take]; rfl)) ?_; (with_reducible refine (squelchref05_split.calls kj1 (a0.extract ((ji10) : Int).toNat a0.size) 44 t626 _ A13.out).mono ?_); rintro e w20 ⟨v627, rfl, ho0, hb⟩; refine ⟨_, rfl, ?_⟩; have n0_ := Aside0.mk (Kd.R_lower ho0 (below_size (by repeat (first | (with_reducible first | exact HB.out | apply below_alloc | apply pw_below_drewN | apply below_drew1 | refine below_set ?_ GE625.out) | exact HB.out)))); have n1_ := Aside0.mk (blk_below (g := gb625) (o := .cells #[.slice none 0 0] 31 (0, 0)) (by (with_reducible repeat (first | refine blk_drewN ?_ _ | refine blk_drew ?_ | refine blk_alloc ?_ _)); exact BK625.out) hb); have n2_ := Aside0.mk (below_step (by repeat (first | (with_reducible first | exact HB.out | apply below_alloc | apply pw_below_drewN | apply below_drew1 | refine below_set ?_ GE625.out) | exact HB.out)) hb); clear BK625; clear HB; have HO628 := n0_; have BK625 := n1_; have HB := n2_; clear n0_ n1_ n2_; (try clear hb); (try clear hb2); (try clear hk); (try clear hi); (try clear ho0)) | ((with_reducible refine gate_callee (f := 44) rfl ?_); refine goesL_ (some 44) rfl rfl Tryd.func44 (by kernel_rfl) rfl #[.string (a0.extract 0 (x4_1 : Int).toNat)] rfl (by (try simp only [List.map_toArray, List.map_cons, List.map_nil]); first | done | rfl | (simp only [List.length_drop, List.length_take]; rfl)) ?_; (with_reducible refine (squelchref04_Parse.calls kj1 (a0.extract 0 (x4_1 : Int).toNat) t629 t630 t631 _ A16.out).mono ?_); rintro e w21 ⟨rfl, hb⟩; refine ⟨_, rfl, ?_⟩; have n0_ := Aside0.mk (Kd.R_below (by (with_reducible repeat (first | apply Kd.R_alloc | apply Kd.R_drewN | apply Kd.R_drew)); exact HO628.out) hb); have n1_ := Aside0.mk (blk_below (g := gb625) (o := .cells #[.slice none 0 0] 31 (0, 0)) (by (with_reducible repeat (first | refine blk_drewN ?_ _ | refine blk_drew ?_ | refine blk_alloc ?_ _)); exact BK625.out) hb); have n2_ := Aside0.mk (below_step (by repeat (first | (with_reducible first | exact HB.out | apply below_alloc | apply pw_below_drewN | apply below_drew1 | refine below_set ?_ GE625.out) | exact HB.out)) hb); clear HO628; clear BK625; clear HB; have HO628 := n0_; have BK625 := n1_; have HB := n2_; clear n0_ n1_ n2_; (try clear hb); (try clear hb2); (try clear hk); (try clear hi)) | ((with_reducible refine gate_dst (N := 6) rfl ?_); (try (refine gate_guard (by rfl) ?_; dsimp only)); refine box_event ?hg (N := 6) ?hd (cs := #[.string (⟨#[]⟩ : ByteArray), .int .i64 0]) (t := 23) ?hr ?_; (case hd => rfl); (case hg => rfl); (case hr => first | (go_simp; done) | (go_simp; rfl)); intro gb632 hg w22 hbox hb; have n0_ := Aside0.mk (Kd.R_below (by (with_reducible repeat (first | apply Kd.R_alloc | apply Kd.R_drewN | apply Kd.R_drew)); exact HO628.out) hb); have n1_ := Aside0.mk (blk_below (g := gb625) (o := .cells #[.slice none 0 0] 31 (0, 0)) (by (with_reducible repeat (first | refine blk_drewN ?_ _ | refine blk_drew ?_ | refine blk_alloc ?_ _)); exact BK625.out) hb); have n2_ := Aside0.mk (below_step (by repeat (first | (with_reducible first | exact HB.out | apply below_alloc | apply pw_below_drewN | apply below_drew1 | refine below_set ?_ GE625.out) | exact HB.out)) hb); have n3_ := Aside0.mk (hbox); have n4_ := Aside0.mk ((by rw [hg]; exact (below_size (by repeat (first | (with_reducible first | exact HB.out | apply below_alloc | apply pw_below_drewN | apply below_drew1 | refine below_set ?_ GE625.out) | exact HB.out))) : w.heap.size ≤ gb632)); have n5_ := Aside0.mk ((by rw [hg]; exact (below_size (by repeat (first | (with_reducible first | exact HB.out | apply below_alloc | apply pw_below_drewN | apply below_drew1 | refine below_set ?_ GE625.out) | exact HB.out))) : w.heap.size ≤ gb632)); have n6_ := Aside0.mk ((by rw [hg]; exact Nat.ne_of_lt (blk_lt (g := gb625) (o := .cells #[.slice none 0 0] 31 (0, 0)) (by (with_reducible repeat (first | refine blk_drewN ?_ _ | refine blk_drew ?_ | refine blk_alloc ?_ _)); exact BK625.out)) : gb625 ≠ gb632)); have n7_ := Aside0.mk ((by rw [hg]; exact Nat.ne_of_gt (blk_lt (g := gb625) (o := .cells #[.slice none 0 0] 31 (0, 0)) (by (with_reducible repeat (first | refine blk_drewN ?_ _ | refine blk_drew ?_ | refine blk_alloc ?_ _)); exact BK625.out)) : gb632 ≠ gb625)); clear HO628; clear BK625; clear HB; have HO628 := n0_; have BK625 := n1_; have HB := n2_; have BK632 := n3_; have GW632 := n4_; have GE632 := n5_; have NB625_632 := n6_; have NB632_625 := n7_; clear n0_ n1_ n2_ n3_ n4_ n5_ n6_ n7_; clear hb hbox hg; have hnb23 := NB632_625.out; have hnc23 := NB625_632.out; have hcz24_0 : w22.cell? ⟨gb632, 0, none⟩ = some (.string (⟨#[]⟩ : ByteArray)) := (blk_cell BK632.out 0).trans rfl; have hcz24_1 : w22.cell? ⟨gb632, 1, none⟩ = some (.int .i64 0) := (blk_cell BK632.out 1).trans rfl; have hfz24_0 := blk_frozen BK632.out 0; have hfz24_1 := blk_frozen BK632.out 1; obtain ⟨Ao25, co25, eo25⟩ := Kd.R_slice HO628.out; subst eo25; have p633 : 0 ≤ (0 : Int) := (by omega); have q633 : 0 < (t626.length : Int) := of_decide_eq_true (by first | (with_reducible assumption) | assumption); obtain ⟨ad633, e633, hx633_0⟩ := Kd.at_string (Kd.R_reads' HO628.out).2.2 0 p633 q633; cases e633; have qi633 : (0 < t626.length) = True := eq_true (by omega); (try rw [show ((0 : Int)).toNat = 0 from rfl] at hx633_0); (try rw [Addr.add_zero'] at hx633_0); have hn633_0 : ad633.block ≠ gb632 := Kd.own_blk (Kd.R_ne HO628.out BK632.out (by decide)); have hn633_1 : ad633.block ≠ gb632 := Kd.own_blk (Kd.R_ne HO628.out BK632.out (by decide)); replace hx633_0 := (cell_far (p := ⟨gb632, 0, none⟩) (by first | (rw [add_block]; exact hn633_0) | (show (Addr.add _ _).block ≠ _; rw [add_block]; exact hn633_0) | exact hn633_0) (.string t629)).trans hx633_0; replace hx633_0 := (cell_far (p := ⟨gb632, 1, none⟩) (by first | (rw [add_block]; exact hn633_1) | (show (Addr.add _ _).block ≠ _; rw [add_block]; exact hn633_1) | exact hn633_1) (.int .i64 t630)).trans hx633_0; clear hn633_0; clear hn633_1; replace p633 := eq_true p633; replace q633 := eq_true q633) | ((with_reducible refine gate_callee (f := 44) rfl ?_); refine goesL_ (some 51) rfl rfl Tryd.func44 (by kernel_rfl) rfl #[.string (rdOf ByteArray.empty t626 0)] rfl (by (try simp only [List.map_toArray, List.map_cons, List.map_nil]); first | done | rfl | (simp only [List.length_drop, List.length_take]; rfl)) ?_; (with_reducible refine (squelchref04_Parse.calls kj1 (rdOf ByteArray.empty t626 0) t634 t635 t636 _ A18.out).mono ?_); rintro e w26 ⟨rfl, hb⟩; refine ⟨_, rfl, ?_⟩; have n0_ := Aside0.mk (Kd.R_below (by (with_reducible repeat (first | apply Kd.R_alloc | apply Kd.R_drewN | apply Kd.R_drew)); exact (Kd.R_mono (Kd.R_far (p := ⟨gb632, 1, none⟩) (Kd.R_far (p := ⟨gb632, 0, none⟩) (Kd.R_types HO628.out BK632.out (by decide)) (fun _ hk => hk.2) (.string t629)) (fun _ hk => hk.2) (.int .i64 t630)) (fun _ h_ => h_.1))) hb); have n1_ := Aside0.mk (blk_below (g := gb625) (o := .cells #[.slice none 0 0] 31 (0, 0)) (by (with_reducible repeat (first | refine blk_drewN ?_ _ | refine blk_drew ?_ | refine blk_alloc ?_ _)); refine blk_far ?_ NB625_632.out _; (with_reducible repeat (first | refine blk_drewN ?_ _ | refine blk_drew ?_ | refine blk_alloc ?_ _)); refine blk_far ?_ NB625_632.out _; (with_reducible repeat (first | refine blk_drewN ?_ _ | refine blk_drew ?_ | refine blk_alloc ?_ _)); exact BK625.out) hb); have n2_ := Aside0.mk (blk_below (g := gb632) (o := .cells #[.string t629, .int .i64 t630] 23 (0, 0)) (by (with_reducible repeat (first | refine blk_drewN ?_ _ | refine blk_drew ?_ | refine blk_alloc ?_ _)); refine blk_put (cs := #[.string t629, .int .i64 0]) ?_ 1 _ rfl; (with_reducible repeat (first | refine blk_drewN ?_ _ | refine blk_drew ?_ | refine blk_alloc ?_ _)); refine blk_put (cs := #[.string (⟨#[]⟩ : ByteArray), .int .i64 0]) ?_ 0 _ rfl; (with_reducible repeat (first | refine blk_drewN ?_ _ | refine blk_drew ?_ | refine blk_alloc ?_ _)); exact BK632.out) hb); have n3_ := Aside0.mk (below_step (by repeat (first | (with_reducible first | exact HB.out | apply below_alloc | apply pw_below_drewN | apply below_drew1 | refine below_set ?_ GE625.out | refine below_set ?_ GE632.out) | exact HB.out)) hb); clear HO628; clear BK625; clear BK632; clear HB; have HO628 := n0_; have BK625 := n1_; have BK632 := n2_; have HB := n3_; clear n0_ n1_ n2_ n3_; (try clear hb); (try clear hb2); (try clear hk); (try clear hi)) | ((with_reducible refine gate_dst (N := 8) rfl ?_); (try (refine gate_guard (by rfl) ?_; dsimp only)); refine box_event ?hg (N := 8) ?hd (cs := #[.string (⟨#[]⟩ : ByteArray), .int .i64 0]) (t := 23) ?hr ?_; (case hd => rfl); (case hg => rfl); (case hr => first | (go_simp; done) | (go_simp; rfl)); intro gb637 hg w27 hbox hb; have n0_ := Aside0.mk (Kd.R_below (by (with_reducible repeat (first | apply Kd.R_alloc | apply Kd.R_drewN | apply Kd.R_drew)); exact HO628.out) hb); have n1_ := Aside0.mk (blk_below (g := gb625) (o := .cells #[.slice none 0 0] 31 (0, 0)) (by (with_reducible repeat (first | refine blk_drewN ?_ _ | refine blk_drew ?_ | refine blk_alloc ?_ _)); exact BK625.out) hb); have n2_ := Aside0.mk (blk_below (g := gb632) (o := .cells #[.string t629, .int .i64 t630] 23 (0, 0)) (by (with_reducible repeat (first | refine blk_drewN ?_ _ | refine blk_drew ?_ | refine blk_alloc ?_ _)); exact BK632.out) hb); have n3_ := Aside0.mk (below_step (by repeat (first | (with_reducible first | exact HB.out | apply below_alloc | apply pw_below_drewN | apply below_drew1 | refine below_set ?_ GE625.out | refine below_set ?_ GE632.out) | exact HB.out)) hb); have n4_ := Aside0.mk (hbox); have n5_ := Aside0.mk ((by rw [hg]; exact (below_size (by repeat (first | (with_reducible first | exact HB.out | apply below_alloc | apply pw_below_drewN | apply below_drew1 | refine below_set ?_ GE625.out | refine below_set ?_ GE632.out) | exact HB.out))) : w.heap.size ≤ gb637)); have n6_ := Aside0.mk ((by rw [hg]; exact (below_size (by repeat (first | (with_reducible first | exact HB.out | apply below_alloc | apply pw_below_drewN | apply below_drew1 | refine below_set ?_ GE625.out | refine below_set ?_ GE632.out) | exact HB.out))) : w.heap.size ≤ gb637)); have n7_ := Aside0.mk ((by rw [hg]; exact Nat.ne_of_lt (blk_lt (g := gb625) (o := .cells #[.slice none 0 0] 31 (0, 0)) (by (with_reducible repeat (first | refine blk_drewN ?_ _ | refine blk_drew ?_ | refine blk_alloc ?_ _)); exact BK625.out)) : gb625 ≠ gb637)); have n8_ := Aside0.mk ((by rw [hg]; exact Nat.ne_of_gt (blk_lt (g := gb625) (o := .cells #[.slice none 0 0] 31 (0, 0)) (by (with_reducible repeat (first | refine blk_drewN ?_ _ | refine blk_drew ?_ | refine blk_alloc ?_ _)); exact BK625.out)) : gb637 ≠ gb625)); have n9_ := Aside0.mk ((by rw [hg]; exact Nat.ne_of_lt (blk_lt (g := gb632) (o := .cells #[.string t629, .int .i64 t630] 23 (0, 0)) (by (with_reducible repeat (first | refine blk_drewN ?_ _ | refine blk_drew ?_ | refine blk_alloc ?_ _)); exact BK632.out)) : gb632 ≠ gb637)); have n10_ := Aside0.mk ((by rw [hg]; exact Nat.ne_of_gt (blk_lt (g := gb632) (o := .cells #[.string t629, .int .i64 t630] 23 (0, 0)) (by (with_reducible repeat (first | refine blk_drewN ?_ _ | refine blk_drew ?_ | refine blk_alloc ?_ _)); exact BK632.out)) : gb637 ≠ gb632)); clear HO628; clear BK625; clear BK632; clear HB; have HO628 := n0_; have BK625 := n1_; have BK632 := n2_; have HB := n3_; have BK637 := n4_; have GW637 := n5_; have GE637 := n6_; have NB625_637 := n7_; have NB637_625 := n8_; have NB632_637 := n9_; have NB637_632 := n10_; clear n0_ n1_ n2_ n3_ n4_ n5_ n6_ n7_ n8_ n9_ n10_; clear hb hbox hg; have hnb28 := NB637_625.out; have hnc28 := NB625_637.out; have hnb29 := NB637_632.out; have hnc29 := NB632_637.out; have hcz30_0 : w27.cell? ⟨gb637, 0, none⟩ = some (.string (⟨#[]⟩ : ByteArray)) := (blk_cell BK637.out 0).trans rfl; have hcz30_1 : w27.cell? ⟨gb637, 1, none⟩ = some (.int .i64 0) := (blk_cell BK637.out 1).trans rfl; have hfz30_0 := blk_frozen BK637.out 0; have hfz30_1 := blk_frozen BK637.out 1))
         (try simp only [Act.put, List.setIfInBounds_toArray, List.set_cons_zero, List.set_cons_succ])
         go_cut [59] (fun v59 wc => ∃ (kq : Nat) (x59_18 : Bool), v59 = .bool x59_18 ∧ Aside0 (squelchref05_Parse.j2 kq t626 x59_18 t629 t630 t634 t635 = some (r1, r2)) ∧ Aside0 (kq ≤ kj1) ∧ Aside0 (Kd.R Kd.string 9 wc w.heap.size (fun _ => True) (.slice (some ad633) t626.length co25) t626) ∧ Aside0 (wc.heap[gb625]? = some (.cells #[(.slice none 0 0)] 31 (0, 0))) ∧ Aside0 (wc.heap[gb632]? = some (.cells #[.string t629, .int .i64 t630] 23 (0, 0))) ∧ Aside0 (wc.heap[gb637]? = some (.cells #[.string t634, .int .i64 t635] 23 (0, 0))) ∧ Aside0 (Below w.heap.size w wc))
         case first =>
          have H := HC19.out
          clear HC19
          by_cases c31 : t631 = true
          ·subst c31
           have H1 : (squelchref05_Parse.j2 kj1 t626 (!t636) t629 t630 t634 t635) = some (r1, r2) := by rw [if_pos rfl] at H; exact H
           clear H
           have H := H1
           clear H1
           have H' := Aside0.mk H
           clear H
           go_wp2
           go_meet
           case rel => exact ⟨_, (!t636), (by first | rfl | (simp; done) | (simp [*]; done) | (simp; exact (fun l : List UInt8 => (by cases l <;> rfl : l.isEmpty = !(l != []))) _)), H', ⟨by have := HJ1.out; first | omega | exact Nat.le_refl _⟩, ⟨by (with_reducible repeat (first | apply Kd.R_alloc | apply Kd.R_drewN | apply Kd.R_drew)); exact Kd.R_mono (Kd.R_far (p := ⟨gb637, 1, none⟩) (Kd.R_far (p := ⟨gb637, 0, none⟩) (Kd.R_types HO628.out BK637.out (by decide)) (fun _ hk => hk.2) (.string t634)) (fun _ hk => hk.2) (.int .i64 t635)) (fun _ hk => trivial)⟩, ⟨by (with_reducible repeat (first | refine blk_drewN ?_ _ | refine blk_drew ?_ | refine blk_alloc ?_ _)); refine blk_far ?_ NB625_637.out _; (with_reducible repeat (first | refine blk_drewN ?_ _ | refine blk_drew ?_ | refine blk_alloc ?_ _)); refine blk_far ?_ NB625_637.out _; (with_reducible repeat (first | refine blk_drewN ?_ _ | refine blk_drew ?_ | refine blk_alloc ?_ _)); exact BK625.out⟩, ⟨by (with_reducible repeat (first | refine blk_drewN ?_ _ | refine blk_drew ?_ | refine blk_alloc ?_ _)); refine blk_far ?_ NB632_637.out _; (with_reducible repeat (first | refine blk_drewN ?_ _ | refine blk_drew ?_ | refine blk_alloc ?_ _)); refine blk_far ?_ NB632_637.out _; (with_reducible repeat (first | refine blk_drewN ?_ _ | refine blk_drew ?_ | refine blk_alloc ?_ _)); exact BK632.out⟩, ⟨by (with_reducible repeat (first | refine blk_drewN ?_ _ | refine blk_drew ?_ | refine blk_alloc ?_ _)); refine blk_put (cs := #[.string t634, .int .i64 0]) ?_ 1 _ rfl; (with_reducible repeat (first | refine blk_drewN ?_ _ | refine blk_drew ?_ | refine blk_alloc ?_ _)); refine blk_put (cs := #[.string (⟨#[]⟩ : ByteArray), .int .i64 0]) ?_ 0 _ rfl; (with_reducible repeat (first | refine blk_drewN ?_ _ | refine blk_drew ?_ | refine blk_alloc ?_ _)); exact BK637.out⟩, ⟨by repeat (first | (with_reducible first | exact HB.out | apply below_alloc | apply pw_below_drewN | apply below_drew1 | refine below_set ?_ GE625.out | refine below_set ?_ GE632.out | refine below_set ?_ GE637.out) | exact HB.out)⟩⟩
          ·replace c31 := Bool.eq_false_iff.mpr c31
           subst c31
           have H1 : (squelchref05_Parse.j2 kj1 t626 true t629 t630 t634 t635) = some (r1, r2) := by rw [if_neg (show ¬ (false = true) by decide)] at H; exact H
           clear H
           have H := H1
           clear H1
           have H' := Aside0.mk H
           clear H
           go_wp2
           go_meet
           case rel => exact ⟨_, (true), (by first | rfl | (simp; done) | (simp [*]; done) | (simp; exact (fun l : List UInt8 => (by cases l <;> rfl : l.isEmpty = !(l != []))) _)), H', ⟨by have := HJ1.out; first | omega | exact Nat.le_refl _⟩, ⟨by (with_reducible repeat (first | apply Kd.R_alloc | apply Kd.R_drewN | apply Kd.R_drew)); exact Kd.R_mono (Kd.R_far (p := ⟨gb637, 1, none⟩) (Kd.R_far (p := ⟨gb637, 0, none⟩) (Kd.R_types HO628.out BK637.out (by decide)) (fun _ hk => hk.2) (.string t634)) (fun _ hk => hk.2) (.int .i64 t635)) (fun _ hk => trivial)⟩, ⟨by (with_reducible repeat (first | refine blk_drewN ?_ _ | refine blk_drew ?_ | refine blk_alloc ?_ _)); refine blk_far ?_ NB625_637.out _; (with_reducible repeat (first | refine blk_drewN ?_ _ | refine blk_drew ?_ | refine blk_alloc ?_ _)); refine blk_far ?_ NB625_637.out _; (with_reducible repeat (first | refine blk_drewN ?_ _ | refine blk_drew ?_ | refine blk_alloc ?_ _)); exact BK625.out⟩, ⟨by (with_reducible repeat (first | refine blk_drewN ?_ _ | refine blk_drew ?_ | refine blk_alloc ?_ _)); refine blk_far ?_ NB632_637.out _; (with_reducible repeat (first | refine blk_drewN ?_ _ | refine blk_drew ?_ | refine blk_alloc ?_ _)); refine blk_far ?_ NB632_637.out _; (with_reducible repeat (first | refine blk_drewN ?_ _ | refine blk_drew ?_ | refine blk_alloc ?_ _)); exact BK632.out⟩, ⟨by (with_reducible repeat (first | refine blk_drewN ?_ _ | refine blk_drew ?_ | refine blk_alloc ?_ _)); refine blk_put (cs := #[.string t634, .int .i64 0]) ?_ 1 _ rfl; (with_reducible repeat (first | refine blk_drewN ?_ _ | refine blk_drew ?_ | refine blk_alloc ?_ _)); refine blk_put (cs := #[.string (⟨#[]⟩ : ByteArray), .int .i64 0]) ?_ 0 _ rfl; (with_reducible repeat (first | refine blk_drewN ?_ _ | refine blk_drew ?_ | refine blk_alloc ?_ _)); exact BK637.out⟩, ⟨by repeat (first | (with_reducible first | exact HB.out | apply below_alloc | apply pw_below_drewN | apply below_drew1 | refine below_set ?_ GE625.out | refine below_set ?_ GE632.out | refine below_set ?_ GE637.out) | exact HB.out)⟩⟩
         case rest =>
          clear HC19
          try clear c1
          try clear c2
          try clear p2
          try clear c3
          try clear c4
          try clear c4b0
          try clear c5
          try clear c5b0
          try clear p6
          try clear q6
          try clear hx6
          try clear qi6
          try clear c7
          try clear c7b0
          try clear c7b1
          try clear c8
          try clear c8b0
          try clear c8b1
          try clear c11
          try clear c11b0
          try clear c11b1
          try clear c12
          try clear c12b0
          try clear c12b1
          try clear c14
          try clear c14b0
          try clear c14b1
          try clear c15
          try clear c15b0
          try clear c15b1
          try clear c17
          try clear c17b0
          try clear c17b1
          try clear c23
          try clear c28
          try clear c29
          try clear c31
          try clear hcz24_0
          try clear hcz24_1
          try clear hcz30_0
          try clear hcz30_1
          try clear hcz9_0
          try clear hfz24_0
          try clear hfz24_1
          try clear hfz30_0
          try clear hfz30_1
          try clear hfz9_0
          try clear hx633_0
          try clear p2
          try clear p6
          try clear p633
          try clear q6
          try clear q633
          obtain ⟨kq, x59_18, rfl, HA, HJ18, HO_5, BK625, BK632, BK637, HB⟩ := hcut
          cases kq with
          | zero => exact absurd HA.out (by simp [squelchref05_Parse.j2])
          | succ kj18 =>
           have H := HA.out
           clear HA
           simp only [squelchref05_Parse.j2] at H
           by_cases c32 : x59_18 = true
           ·subst c32
            have H1 : (some (([] : List (S37)), 12)) = some (r1, r2) := by rw [if_pos rfl] at H; exact H
            clear H
            have H := H1
            clear H1
            simp only [Option.some.injEq, Prod.mk.injEq] at H
            obtain ⟨rfl, rfl⟩ := H
            have hnb33 := NB625_632.out
            have hnc33 := NB632_625.out
            have hnb34 := NB625_637.out
            have hnc34 := NB637_625.out
            have hcz35_0 : wc.cell? ⟨gb625, 0, none⟩ = some (.slice none 0 0) := (blk_cell BK625.out 0).trans rfl
            have hfz35_0 := blk_frozen BK625.out 0
            go_wp2
            refine bodyPost_ret (results_ct rfl _ _ gb625 31 #[.slice none 0 0] (0, 0) _ rfl (by (with_reducible repeat (first | refine blk_drewN ?_ _ | refine blk_drew ?_ | refine blk_alloc ?_ _)); refine blk_put (cs := #[.slice none 0 0]) ?_ 0 _ rfl; (with_reducible repeat (first | refine blk_drewN ?_ _ | refine blk_drew ?_ | refine blk_alloc ?_ _)); exact BK625.out) Tryd.underlying31 rfl (by kernel_rfl)) rfl ?_
            exact ⟨_, by first | rfl | (simp [errW_none, errW_some] <;> rfl) | (simp only [← hji10]; first | rfl | (simp [errW_none, errW_some] <;> rfl)) | (simp [*, errW_none, errW_some] <;> rfl), by first | exact Kd.R_nil _ _ _ _ _ | exact Kd.N_nil _ _ _ _ _ | exact Kd.V_nil _ _ _ _ _ | exact Kd.Q_nil _ _ _ _ _ | exact Kd.S_nil _ _ _ _ _, by repeat (first | (with_reducible first | exact HB.out | apply below_alloc | apply pw_below_drewN | apply below_drew1 | refine below_set ?_ GE625.out | refine below_set ?_ GE632.out | refine below_set ?_ GE637.out) | exact HB.out)⟩
           ·replace c32 := Bool.eq_false_iff.mpr c32
            subst c32
            have H1 : (squelchref05_Parse.l1 kj18 t626 0 1 (([(⟨(⟨t634, t635⟩ : S23), true⟩ : S37), (⟨(⟨t629, t630⟩ : S23), false⟩ : S37)] : List (S37)))) = some (r1, r2) := by rw [if_neg (show ¬ (false = true) by decide)] at H; exact H
            clear H
            have H := H1
            clear H1
            obtain ⟨y638, hy638⟩ : ∃ y_ : List (S37), y_ = (([(⟨(⟨t634, t635⟩ : S23), true⟩ : S37), (⟨(⟨t629, t630⟩ : S23), false⟩ : S37)] : List (S37))) := ⟨_, rfl⟩
            replace H : (squelchref05_Parse.l1 kj18 t626 0 1 y638) = some (r1, r2) := by first | (rw [hy638]; with_reducible exact H) | (have H2_ := (Option.bind_some _ _).symm.trans H; rw [hy638]; with_reducible exact H2_) | (have H2_ := (Option.bind_some _ _).symm.trans H; with_reducible exact H2_) | with_reducible exact H | (rw [hy638]; exact H) | exact H
            have Ny638 := Aside0.mk hy638
            clear hy638
            have H' := Aside0.mk H
            clear H
            have hnb36 := NB637_625.out
            have hnc36 := NB625_637.out
            have hnb37 := NB637_632.out
            have hnc37 := NB632_637.out
            have hcz38_0 : wc.cell? ⟨gb637, 0, none⟩ = some (.string t634) := (blk_cell BK637.out 0).trans rfl
            have hcz38_1 : wc.cell? ⟨gb637, 1, none⟩ = some (.int .i64 t635) := (blk_cell BK637.out 1).trans rfl
            have hfz38_0 := blk_frozen BK637.out 0
            have hfz38_1 := blk_frozen BK637.out 1
            have hnb39 := NB632_625.out
            have hnc39 := NB625_632.out
            have hcz40_0 : wc.cell? ⟨gb632, 0, none⟩ = some (.string t629) := (blk_cell BK632.out 0).trans rfl
            have hcz40_1 : wc.cell? ⟨gb632, 1, none⟩ = some (.int .i64 t630) := (blk_cell BK632.out 1).trans rfl
            have hfz40_0 := blk_frozen BK632.out 0
            have hfz40_1 := blk_frozen BK632.out 1
            go_wp2_with (first | ((with_reducible refine gate_dst (N := 65) rfl ?_); (try (refine gate_guard (by rfl) ?_; dsimp only)); refine Kd.R_lit k37 _ 37 ?hg (N := 65) ?hd (xs := ([(⟨(⟨t634, t635⟩ : S23), true⟩ : S37), (⟨(⟨t629, t630⟩ : S23), false⟩ : S37)] : List (S37))) (inner := [.string t634, .int .i64 t635, .bool true, .string t629, .int .i64 t630, .bool false]) (ok := fun _ => True) (okp := fun _ => True) ?hr ?hp (fun _ hk => hk) trivial (Below.refl _ _) (Nat.le_refl _) (by simp) ?_; (case hd => rfl); (case hg => rfl); (case hr => first | (go_simp; done) | (go_simp; rfl)); (case hp => exact (Reps.c3 (show Kd.M k37 _ _ _ (⟨(⟨t634, t635⟩ : S23), true⟩ : S37) [.string t634, .int .i64 t635, .bool true] from (k37_mkM _ _ _ (⟨(⟨t634, t635⟩ : S23), true⟩ : S37) )) (Reps.c3 (show Kd.M k37 _ _ _ (⟨(⟨t629, t630⟩ : S23), false⟩ : S37) [.string t629, .int .i64 t630, .bool false] from (k37_mkM _ _ _ (⟨(⟨t629, t630⟩ : S23), false⟩ : S37) )) (Reps.none _ _)))); intro v639 w41 ho42 hb hg_ hnew_; clear hg_ hnew_; (first | rw [← Ny638.out] at ho42 | (simp only [Int.reduceToNat] at ho42; rw [← Ny638.out] at ho42)); have n0_ := Aside0.mk (Kd.R_below (by (with_reducible repeat (first | apply Kd.R_alloc | apply Kd.R_drewN | apply Kd.R_drew)); exact HO_5.out) hb); have n1_ := Aside0.mk (Kd.R_lower ho42 (below_size (by repeat (first | (with_reducible first | exact HB.out | apply below_alloc | apply pw_below_drewN | apply below_drew1 | refine below_set ?_ GE625.out | refine below_set ?_ GE632.out | refine below_set ?_ GE637.out) | exact HB.out)))); have n2_ := Aside0.mk (blk_below (g := gb625) (o := .cells #[.slice none 0 0] 31 (0, 0)) (by (with_reducible repeat (first | refine blk_drewN ?_ _ | refine blk_drew ?_ | refine blk_alloc ?_ _)); exact BK625.out) hb); have n3_ := Aside0.mk (blk_below (g := gb632) (o := .cells #[.string t629, .int .i64 t630] 23 (0, 0)) (by (with_reducible repeat (first | refine blk_drewN ?_ _ | refine blk_drew ?_ | refine blk_alloc ?_ _)); exact BK632.out) hb); have n4_ := Aside0.mk (blk_below (g := gb637) (o := .cells #[.string t634, .int .i64 t635] 23 (0, 0)) (by (with_reducible repeat (first | refine blk_drewN ?_ _ | refine blk_drew ?_ | refine blk_alloc ?_ _)); exact BK637.out) hb); have n5_ := Aside0.mk (below_step (by repeat (first | (with_reducible first | exact HB.out | apply below_alloc | apply pw_below_drewN | apply below_drew1 | refine below_set ?_ GE625.out | refine below_set ?_ GE632.out | refine below_set ?_ GE637.out) | exact HB.out)) hb); clear HO_5; clear BK625; clear BK632; clear BK637; clear HB; have HO_5 := n0_; have HO640 := n1_; have BK625 := n2_; have BK632 := n3_; have BK637 := n4_; have HB := n5_; clear n0_ n1_ n2_ n3_ n4_ n5_; clear hb ho42; obtain ⟨Ao43, co43, eo43⟩ := Kd.R_slice HO640.out; subst eo43) | ((with_reducible refine gate_dst (N := 10) rfl ?_); (try (refine gate_guard (by rfl) ?_; dsimp only)); refine box_event ?hg (N := 10) ?hd (cs := #[.slice none 0 0]) (t := 31) ?hr ?_; (case hd => rfl); (case hg => rfl); (case hr => first | (go_simp; done) | (go_simp; rfl)); intro gb641 hg w44 hbox hb; have n0_ := Aside0.mk (Kd.R_below (by (with_reducible repeat (first | apply Kd.R_alloc | apply Kd.R_drewN | apply Kd.R_drew)); exact HO_5.out) hb); have n1_ := Aside0.mk (Kd.R_below (by (with_reducible repeat (first | apply Kd.R_alloc | apply Kd.R_drewN | apply Kd.R_drew)); exact HO640.out) hb); have n2_ := Aside0.mk (blk_below (g := gb625) (o := .cells #[.slice none 0 0] 31 (0, 0)) (by (with_reducible repeat (first | refine blk_drewN ?_ _ | refine blk_drew ?_ | refine blk_alloc ?_ _)); exact BK625.out) hb); have n3_ := Aside0.mk (blk_below (g := gb632) (o := .cells #[.string t629, .int .i64 t630] 23 (0, 0)) (by (with_reducible repeat (first | refine blk_drewN ?_ _ | refine blk_drew ?_ | refine blk_alloc ?_ _)); exact BK632.out) hb); have n4_ := Aside0.mk (blk_below (g := gb637) (o := .cells #[.string t634, .int .i64 t635] 23 (0, 0)) (by (with_reducible repeat (first | refine blk_drewN ?_ _ | refine blk_drew ?_ | refine blk_alloc ?_ _)); exact BK637.out) hb); have n5_ := Aside0.mk (below_step (by repeat (first | (with_reducible first | exact HB.out | apply below_alloc | apply pw_below_drewN | apply below_drew1 | refine below_set ?_ GE625.out | refine below_set ?_ GE632.out | refine below_set ?_ GE637.out) | exact HB.out)) hb); have n6_ := Aside0.mk (hbox); have n7_ := Aside0.mk ((by rw [hg]; exact (below_size (by repeat (first | (with_reducible first | exact HB.out | apply below_alloc | apply pw_below_drewN | apply below_drew1 | refine below_set ?_ GE625.out | refine below_set ?_ GE632.out | refine below_set ?_ GE637.out) | exact HB.out))) : w.heap.size ≤ gb641)); have n8_ := Aside0.mk ((by rw [hg]; exact (below_size (by repeat (first | (with_reducible first | exact HB.out | apply below_alloc | apply pw_below_drewN | apply below_drew1 | refine below_set ?_ GE625.out | refine below_set ?_ GE632.out | refine below_set ?_ GE637.out) | exact HB.out))) : w.heap.size ≤ gb641)); have n9_ := Aside0.mk ((by rw [hg]; exact Nat.ne_of_lt (blk_lt (g := gb625) (o := .cells #[.slice none 0 0] 31 (0, 0)) (by (with_reducible repeat (first | refine blk_drewN ?_ _ | refine blk_drew ?_ | refine blk_alloc ?_ _)); exact BK625.out)) : gb625 ≠ gb641)); have n10_ := Aside0.mk ((by rw [hg]; exact Nat.ne_of_gt (blk_lt (g := gb625) (o := .cells #[.slice none 0 0] 31 (0, 0)) (by (with_reducible repeat (first | refine blk_drewN ?_ _ | refine blk_drew ?_ | refine blk_alloc ?_ _)); exact BK625.out)) : gb641 ≠ gb625)); have n11_ := Aside0.mk ((by rw [hg]; exact Nat.ne_of_lt (blk_lt (g := gb632) (o := .cells #[.string t629, .int .i64 t630] 23 (0, 0)) (by (with_reducible repeat (first | refine blk_drewN ?_ _ | refine blk_drew ?_ | refine blk_alloc ?_ _)); exact BK632.out)) : gb632 ≠ gb641)); have n12_ := Aside0.mk ((by rw [hg]; exact Nat.ne_of_gt (blk_lt (g := gb632) (o := .cells #[.string t629, .int .i64 t630] 23 (0, 0)) (by (with_reducible repeat (first | refine blk_drewN ?_ _ | refine blk_drew ?_ | refine blk_alloc ?_ _)); exact BK632.out)) : gb641 ≠ gb632)); have n13_ := Aside0.mk ((by rw [hg]; exact Nat.ne_of_lt (blk_lt (g := gb637) (o := .cells #[.string t634, .int .i64 t635] 23 (0, 0)) (by (with_reducible repeat (first | refine blk_drewN ?_ _ | refine blk_drew ?_ | refine blk_alloc ?_ _)); exact BK637.out)) : gb637 ≠ gb641)); have n14_ := Aside0.mk ((by rw [hg]; exact Nat.ne_of_gt (blk_lt (g := gb637) (o := .cells #[.string t634, .int .i64 t635] 23 (0, 0)) (by (with_reducible repeat (first | refine blk_drewN ?_ _ | refine blk_drew ?_ | refine blk_alloc ?_ _)); exact BK637.out)) : gb641 ≠ gb637)); clear HO_5; clear HO640; clear BK625; clear BK632; clear BK637; clear HB; have HO_5 := n0_; have HO640 := n1_; have BK625 := n2_; have BK632 := n3_; have BK637 := n4_; have HB := n5_; have BK641 := n6_; have GW641 := n7_; have GE641 := n8_; have NB625_641 := n9_; have NB641_625 := n10_; have NB632_641 := n11_; have NB641_632 := n12_; have NB637_641 := n13_; have NB641_637 := n14_; clear n0_ n1_ n2_ n3_ n4_ n5_ n6_ n7_ n8_ n9_ n10_ n11_ n12_ n13_ n14_; clear hb hbox hg; have hnb45 := NB641_625.out; have hnc45 := NB625_641.out; have hnb46 := NB641_632.out; have hnc46 := NB632_641.out; have hnb47 := NB641_637.out; have hnc47 := NB637_641.out; have hcz48_0 : w44.cell? ⟨gb641, 0, none⟩ = some (.slice none 0 0) := (blk_cell BK641.out 0).trans rfl; have hfz48_0 := blk_frozen BK641.out 0))
            go_loopg [11, 12] kj18 (fun kq v11 v12 w' => ∃ (x11_3 : Int) (x12_3 : Int) (x642000_3 : List (S37)) (u642000 : Value), v11 = .int .i64 x11_3 ∧ v12 = .int .i64 x12_3 ∧ Aside0 (squelchref05_Parse.l1 kq t626 x11_3 x12_3 x642000_3 = some (r1, r2)) ∧ Aside0 (kq ≤ kj18) ∧ Aside0 (Kd.R Kd.string 9 w' w.heap.size (fun _ => True) (.slice (some ad633) t626.length co25) t626) ∧ Aside0 (Kd.R k37 37 w' w.heap.size (fun _ => True) u642000 x642000_3) ∧ Aside0 (w'.heap[gb625]? = some (.cells #[(.slice none 0 0)] 31 (0, 0))) ∧ Aside0 (w'.heap[gb632]? = some (.cells #[.string t629, .int .i64 t630] 23 (0, 0))) ∧ Aside0 (w'.heap[gb637]? = some (.cells #[.string t634, .int .i64 t635] 23 (0, 0))) ∧ Aside0 (w'.heap[gb641]? = some (.cells #[u642000] 31 (0, 0))) ∧ Aside0 (Below w.heap.size w w'))
            case atStart => exact ⟨(0), (1), (y638), (.slice Ao43 y638.length co43), (by first | rfl | (simp; done) | (simp [*]; done) | (simp; exact (fun l : List UInt8 => (by cases l <;> rfl : l.isEmpty = !(l != []))) _)), (by first | rfl | (simp; done) | (simp [*]; done) | (simp; exact (fun l : List UInt8 => (by cases l <;> rfl : l.isEmpty = !(l != []))) _)), H', ⟨Nat.le_refl _⟩, ⟨by (with_reducible repeat (first | apply Kd.R_alloc | apply Kd.R_drewN | apply Kd.R_drew)); exact Kd.R_mono (Kd.R_far (p := ⟨gb641, 0, none⟩) (Kd.R_types HO_5.out BK641.out (by decide)) (fun _ hk => hk.2) (.slice Ao43 y638.length co43)) (fun _ hk => trivial)⟩, ⟨by (with_reducible repeat (first | apply Kd.R_alloc | apply Kd.R_drewN | apply Kd.R_drew)); exact Kd.R_mono (Kd.R_far (p := ⟨gb641, 0, none⟩) (Kd.R_types HO640.out BK641.out (by decide)) (fun _ hk => hk.2) (.slice Ao43 y638.length co43)) (fun _ hk => trivial)⟩, ⟨by (with_reducible repeat (first | refine blk_drewN ?_ _ | refine blk_drew ?_ | refine blk_alloc ?_ _)); refine blk_far ?_ NB625_641.out _; (with_reducible repeat (first | refine blk_drewN ?_ _ | refine blk_drew ?_ | refine blk_alloc ?_ _)); exact BK625.out⟩, ⟨by (with_reducible repeat (first | refine blk_drewN ?_ _ | refine blk_drew ?_ | refine blk_alloc ?_ _)); refine blk_far ?_ NB632_641.out _; (with_reducible repeat (first | refine blk_drewN ?_ _ | refine blk_drew ?_ | refine blk_alloc ?_ _)); exact BK632.out⟩, ⟨by (with_reducible repeat (first | refine blk_drewN ?_ _ | refine blk_drew ?_ | refine blk_alloc ?_ _)); refine blk_far ?_ NB637_641.out _; (with_reducible repeat (first | refine blk_drewN ?_ _ | refine blk_drew ?_ | refine blk_alloc ?_ _)); exact BK637.out⟩, ⟨by (with_reducible repeat (first | refine blk_drewN ?_ _ | refine blk_drew ?_ | refine blk_alloc ?_ _)); refine blk_put (cs := #[.slice none 0 0]) ?_ 0 _ rfl; (with_reducible repeat (first | refine blk_drewN ?_ _ | refine blk_drew ?_ | refine blk_alloc ?_ _)); exact BK641.out⟩, ⟨by repeat (first | (with_reducible first | exact HB.out | apply below_alloc | apply pw_below_drewN | apply below_drew1 | refine below_set ?_ GE625.out | refine below_set ?_ GE632.out | refine below_set ?_ GE637.out | refine below_set ?_ GE641.out) | exact HB.out)⟩⟩
            case round =>
             clear H'
             try clear c1
             try clear c2
             try clear p2
             try clear c3
             try clear c4
             try clear c4b0
             try clear c5
             try clear c5b0
             try clear p6
             try clear q6
             try clear hx6
             try clear qi6
             try clear c7
             try clear c7b0
             try clear c7b1
             try clear c8
             try clear c8b0
             try clear c8b1
             try clear c11
             try clear c11b0
             try clear c11b1
             try clear c12
             try clear c12b0
             try clear c12b1
             try clear c14
             try clear c14b0
             try clear c14b1
             try clear c15
             try clear c15b0
             try clear c15b1
             try clear c17
             try clear c17b0
             try clear c17b1
             try clear c23
             try clear c28
             try clear c29
             try clear c31
             try clear c32
             try clear c33
             try clear c34
             try clear c36
             try clear c37
             try clear c39
             try clear c44
             try clear c45
             try clear c46
             try clear c47
             try clear hcz24_0
             try clear hcz24_1
             try clear hcz30_0
             try clear hcz30_1
             try clear hcz35_0
             try clear hcz38_0
             try clear hcz38_1
             try clear hcz40_0
             try clear hcz40_1
             try clear hcz48_0
             try clear hcz9_0
             try clear hfz24_0
             try clear hfz24_1
             try clear hfz30_0
             try clear hfz30_1
             try clear hfz35_0
             try clear hfz38_0
             try clear hfz38_1
             try clear hfz40_0
             try clear hfz40_1
             try clear hfz48_0
             try clear hfz9_0
             try clear hx633_0
             try clear p2
             try clear p6
             try clear p633
             try clear q6
             try clear q633
             obtain ⟨x11_3, x12_3, x642000_3, u642000, rfl, rfl, HA, HK3, HO_5, HO_642000, BK625, BK632, BK637, BK641, HB⟩ := hrel
             cases gk with
             | zero => exact absurd HA.out (by simp [squelchref05_Parse.l1])
             | succ k3 =>
              have H := HA.out
              clear HA
              simp only [squelchref05_Parse.l1] at H
              by_cases c49 : x12_3 < (t626.length : Int)
              ·rw [if_pos c49] at H
               have c49b0 : decide (x12_3 < (t626.length : Int)) = true := decide_eq_true c49
               clear c49
               by_cases c50 : 0 ≤ x12_3
               ·rw [if_pos c50] at H
                have c50b0 : decide (0 ≤ x12_3) = true := decide_eq_true c50
                clear c50
                by_cases c51 : x12_3 = 9
                ·rw [if_pos c51] at H
                 have c51b0 : (x12_3 == 9) = true := beq_iff_eq.mpr c51
                 have c51b1 : (x12_3 != 9) = false := bne_eq_false_iff_eq.mpr c51
                 clear c51
                 simp only [Option.some.injEq, Prod.mk.injEq] at H
                 obtain ⟨rfl, rfl⟩ := H
                 have p642 : 0 ≤ (x12_3 : Int) := of_decide_eq_true (by first | (with_reducible assumption) | assumption)
                 have q642 : x12_3 < (t626.length : Int) := of_decide_eq_true (by first | (with_reducible assumption) | assumption)
                 obtain ⟨ad642, e642, hx642_0⟩ := Kd.at_string (Kd.R_reads' HO_5.out).2.2 x12_3 p642 q642
                 obtain rfl : ad633 = ad642 := (by injection e642)
                 replace p642 := eq_true p642
                 replace q642 := eq_true q642
                 have hnb52 := NB625_632.out
                 have hnc52 := NB632_625.out
                 have hnb53 := NB625_637.out
                 have hnc53 := NB637_625.out
                 have hnb54 := NB625_641.out
                 have hnc54 := NB641_625.out
                 have hcz55_0 : wr.cell? ⟨gb625, 0, none⟩ = some (.slice none 0 0) := (blk_cell BK625.out 0).trans rfl
                 have hfz55_0 := blk_frozen BK625.out 0
                 go_wp2
                 refine bodyPost_ret (results_ct rfl _ _ gb625 31 #[.slice none 0 0] (0, 0) _ rfl (by (with_reducible repeat (first | refine blk_drewN ?_ _ | refine blk_drew ?_ | refine blk_alloc ?_ _)); refine blk_put (cs := #[.slice none 0 0]) ?_ 0 _ rfl; (with_reducible repeat (first | refine blk_drewN ?_ _ | refine blk_drew ?_ | refine blk_alloc ?_ _)); exact BK625.out) Tryd.underlying31 rfl (by kernel_rfl)) rfl ?_
                 exact ⟨_, by first | rfl | (simp [errW_none, errW_some] <;> rfl) | (simp only [← hji10]; first | rfl | (simp [errW_none, errW_some] <;> rfl)) | (simp [*, errW_none, errW_some] <;> rfl), by first | exact Kd.R_nil _ _ _ _ _ | exact Kd.N_nil _ _ _ _ _ | exact Kd.V_nil _ _ _ _ _ | exact Kd.Q_nil _ _ _ _ _ | exact Kd.S_nil _ _ _ _ _, by repeat (first | (with_reducible first | exact HB.out | apply below_alloc | apply pw_below_drewN | apply below_drew1 | refine below_set ?_ GE625.out | refine below_set ?_ GE632.out | refine below_set ?_ GE637.out | refine below_set ?_ GE641.out) | exact HB.out)⟩
                ·rw [if_neg c51] at H
                 have c51b0 : (x12_3 == 9) = false := beq_eq_false_iff_ne.mpr c51
                 have c51b1 : (x12_3 != 9) = true := bne_iff_ne.mpr c51
                 have HC56 := Aside0.mk H
                 clear H
                 have p642 : 0 ≤ (x12_3 : Int) := of_decide_eq_true (by first | (with_reducible assumption) | assumption)
                 have q642 : x12_3 < (t626.length : Int) := of_decide_eq_true (by first | (with_reducible assumption) | assumption)
                 obtain ⟨ad642, e642, hx642_0⟩ := Kd.at_string (Kd.R_reads' HO_5.out).2.2 x12_3 p642 q642
                 obtain rfl : ad633 = ad642 := (by injection e642)
                 replace p642 := eq_true p642
                 replace q642 := eq_true q642
                 go_upto_region 19 with (fail)
                 go_cut [14] (fun v14 wc => ∃ (kq : Nat) (x14_55 : Bool), v14 = .bool x14_55 ∧ Aside0 (squelchref05_Parse.j4 kq t626 x11_3 x12_3 (rdOf ByteArray.empty t626 x12_3) x14_55 x642000_3 = some (r1, r2)) ∧ Aside0 (kq ≤ k3) ∧ Aside0 (Kd.R Kd.string 9 wc w.heap.size (fun _ => True) (.slice (some ad633) t626.length co25) t626) ∧ Aside0 (Kd.R k37 37 wc w.heap.size (fun _ => True) u642000 x642000_3) ∧ Aside0 (wc.heap[gb625]? = some (.cells #[(.slice none 0 0)] 31 (0, 0))) ∧ Aside0 (wc.heap[gb632]? = some (.cells #[.string t629, .int .i64 t630] 23 (0, 0))) ∧ Aside0 (wc.heap[gb637]? = some (.cells #[.string t634, .int .i64 t635] 23 (0, 0))) ∧ Aside0 (wc.heap[gb641]? = some (.cells #[u642000] 31 (0, 0))) ∧ Aside0 (Below w.heap.size w wc))
                 case first =>
                  have H := HC56.out
                  clear HC56
                  by_cases c57 : ((rdOf ByteArray.empty t626 x12_3).size : Int) > 0
                  ·rw [if_pos c57] at H
                   have c57b0 : decide (0 < ((rdOf ByteArray.empty t626 x12_3).size : Int)) = true := decide_eq_true c57
                   have c57b1 : decide (0 < (rdOf ByteArray.empty t626 x12_3).size) = true := decide_eq_true (by omega)
                   clear c57
                   (first | rw [c57b0] | (simp only [i64_w, i32_w]; rw [c57b0]) | skip)
                   obtain ⟨ji58, hji58⟩ : ∃ j_ : Int, (wrap64 (((rdOf ByteArray.empty t626 x12_3).size : Int) - 1)) = j_ := ⟨_, rfl⟩
                   replace H : (if 0 ≤ (ji58) then (if (ji58) < ((rdOf ByteArray.empty t626 x12_3).size : Int) then (squelchref05_Parse.j4 k3 t626 x11_3 x12_3 (rdOf ByteArray.empty t626 x12_3) ((bt (rdOf ByteArray.empty t626 x12_3) (ji58)) == 42) x642000_3) else (none)) else (none)) = some (r1, r2) := by first | (rw [hji58] at H; exact H) | (simp only [hji58] at H ⊢; exact H)
                   have hji58w : (IntKind.i64.wrap (((rdOf ByteArray.empty t626 x12_3).size : Int) - 1)) = ji58 := (i64_w _).trans hji58
                   by_cases c59 : 0 ≤ (ji58)
                   ·rw [if_pos c59] at H
                    have c59b0 : decide (0 ≤ (ji58)) = true := decide_eq_true c59
                    clear c59
                    by_cases c60 : (ji58) < ((rdOf ByteArray.empty t626 x12_3).size : Int)
                    ·rw [if_pos c60] at H
                     have c60b0 : decide ((ji58) < ((rdOf ByteArray.empty t626 x12_3).size : Int)) = true := decide_eq_true c60
                     clear c60
                     have H' := Aside0.mk H
                     clear H
                     have p61 : 0 ≤ ((ji58) : Int) := of_decide_eq_true (by first | (with_reducible assumption) | assumption)
                     have q61 : (ji58) < ((rdOf ByteArray.empty t626 x12_3).size : Int) := of_decide_eq_true (by first | (with_reducible assumption) | assumption)
                     have hx61 := bt_at (rdOf ByteArray.empty t626 x12_3) (ji58)
                     replace p61 := eq_true p61
                     replace q61 := eq_true q61
                     go_wp2
                     go_meet
                     case rel => exact ⟨_, (((bt (rdOf ByteArray.empty t626 x12_3) (ji58)) == 42)), (by first | rfl | (simp; done) | (simp only [← hji58] <;> (first | rfl | simp)) | (simp [*]; done)), H', ⟨by have := HJ1.out; have := HJ18.out; have := HK3.out; first | omega | exact Nat.le_refl _⟩, ⟨by (with_reducible repeat (first | apply Kd.R_alloc | apply Kd.R_drewN | apply Kd.R_drew)); exact HO_5.out⟩, ⟨by (with_reducible repeat (first | apply Kd.R_alloc | apply Kd.R_drewN | apply Kd.R_drew)); exact HO_642000.out⟩, ⟨by (with_reducible repeat (first | refine blk_drewN ?_ _ | refine blk_drew ?_ | refine blk_alloc ?_ _)); exact BK625.out⟩, ⟨by (with_reducible repeat (first | refine blk_drewN ?_ _ | refine blk_drew ?_ | refine blk_alloc ?_ _)); exact BK632.out⟩, ⟨by (with_reducible repeat (first | refine blk_drewN ?_ _ | refine blk_drew ?_ | refine blk_alloc ?_ _)); exact BK637.out⟩, ⟨by (with_reducible repeat (first | refine blk_drewN ?_ _ | refine blk_drew ?_ | refine blk_alloc ?_ _)); exact BK641.out⟩, ⟨by repeat (first | (with_reducible first | exact HB.out | apply below_alloc | apply pw_below_drewN | apply below_drew1 | refine below_set ?_ GE625.out | refine below_set ?_ GE632.out | refine below_set ?_ GE637.out | refine below_set ?_ GE641.out) | exact HB.out)⟩⟩
                    ·rw [if_neg c60] at H
                     exact absurd H (by simp)
                   ·rw [if_neg c59] at H
                    exact absurd H (by simp)
                  ·rw [if_neg c57] at H
                   have c57b0 : decide (0 < ((rdOf ByteArray.empty t626 x12_3).size : Int)) = false := decide_eq_false c57
                   have c57b1 : decide (0 < (rdOf ByteArray.empty t626 x12_3).size) = false := decide_eq_false (by omega)
                   clear c57
                   (first | rw [c57b0] | (simp only [i64_w, i32_w]; rw [c57b0]) | skip)
                   have H' := Aside0.mk H
                   clear H
                   go_wp2
                   go_meet
                   case rel => exact ⟨_, (false), (by first | rfl | (simp; done) | (simp [*]; done) | (simp; exact (fun l : List UInt8 => (by cases l <;> rfl : l.isEmpty = !(l != []))) _)), H', ⟨by have := HJ1.out; have := HJ18.out; have := HK3.out; first | omega | exact Nat.le_refl _⟩, ⟨by (with_reducible repeat (first | apply Kd.R_alloc | apply Kd.R_drewN | apply Kd.R_drew)); exact HO_5.out⟩, ⟨by (with_reducible repeat (first | apply Kd.R_alloc | apply Kd.R_drewN | apply Kd.R_drew)); exact HO_642000.out⟩, ⟨by (with_reducible repeat (first | refine blk_drewN ?_ _ | refine blk_drew ?_ | refine blk_alloc ?_ _)); exact BK625.out⟩, ⟨by (with_reducible repeat (first | refine blk_drewN ?_ _ | refine blk_drew ?_ | refine blk_alloc ?_ _)); exact BK632.out⟩, ⟨by (with_reducible repeat (first | refine blk_drewN ?_ _ | refine blk_drew ?_ | refine blk_alloc ?_ _)); exact BK637.out⟩, ⟨by (with_reducible repeat (first | refine blk_drewN ?_ _ | refine blk_drew ?_ | refine blk_alloc ?_ _)); exact BK641.out⟩, ⟨by repeat (first | (with_reducible first | exact HB.out | apply below_alloc | apply pw_below_drewN | apply below_drew1 | refine below_set ?_ GE625.out | refine below_set ?_ GE632.out | refine below_set ?_ GE637.out | refine below_set ?_ GE641.out) | exact HB.out)⟩⟩
                 case rest =>
                  clear HC56
                  try clear c1
                  try clear c2
                  try clear p2
                  try clear c3
                  try clear c4
                  try clear c4b0
                  try clear c5
                  try clear c5b0
                  try clear c6
                  try clear p6
                  try clear q6
                  try clear hx6
                  try clear qi6
                  try clear c7
                  try clear c7b0
                  try clear c7b1
                  try clear c8
                  try clear c8b0
                  try clear c8b1
                  try clear c11
                  try clear c11b0
                  try clear c11b1
                  try clear c12
                  try clear c12b0
                  try clear c12b1
                  try clear c14
                  try clear c14b0
                  try clear c14b1
                  try clear c15
                  try clear c15b0
                  try clear c15b1
                  try clear c17
                  try clear c17b0
                  try clear c17b1
                  try clear c23
                  try clear c28
                  try clear c29
                  try clear c31
                  try clear c32
                  try clear c33
                  try clear c34
                  try clear c36
                  try clear c37
                  try clear c39
                  try clear c44
                  try clear c45
                  try clear c46
                  try clear c47
                  try clear c49
                  try clear c49b0
                  try clear c50
                  try clear c50b0
                  try clear c51
                  try clear c51b0
                  try clear c51b1
                  try clear c52
                  try clear c53
                  try clear c54
                  try clear c57
                  try clear c57b0
                  try clear c57b1
                  try clear c59
                  try clear c59b0
                  try clear c60
                  try clear c60b0
                  try clear p61
                  try clear q61
                  try clear hx61
                  try clear hcz24_0
                  try clear hcz24_1
                  try clear hcz30_0
                  try clear hcz30_1
                  try clear hcz35_0
                  try clear hcz38_0
                  try clear hcz38_1
                  try clear hcz40_0
                  try clear hcz40_1
                  try clear hcz48_0
                  try clear hcz55_0
                  try clear hcz9_0
                  try clear hfz24_0
                  try clear hfz24_1
                  try clear hfz30_0
                  try clear hfz30_1
                  try clear hfz35_0
                  try clear hfz38_0
                  try clear hfz38_1
                  try clear hfz40_0
                  try clear hfz40_1
                  try clear hfz48_0
                  try clear hfz55_0
                  try clear hfz9_0
                  try clear hx633_0
                  try clear hx642_0
                  try clear p2
                  try clear p6
                  try clear p61
                  try clear p633
                  try clear p642
                  try clear q6
                  try clear q61
                  try clear q633
                  try clear q642
                  obtain ⟨kq, x14_55, rfl, HA, HJ55, HO_5, HO_642000, BK625, BK632, BK637, BK641, HB⟩ := hcut
                  cases kq with
                  | zero => exact absurd HA.out (by simp [squelchref05_Parse.j4])
                  | succ kj55 =>
                   have H := HA.out
                   clear HA
                   simp only [squelchref05_Parse.j4] at H
                   have HC62 := Aside0.mk H
                   clear H
                   go_upto_if 91 with (fail)
                   go_cut [13] (fun v13 wc => ∃ (kq : Nat) (x13_61 : ByteArray), v13 = .string x13_61 ∧ Aside0 (squelchref05_Parse.j5 kq t626 x11_3 x12_3 x13_61 x14_55 x642000_3 = some (r1, r2)) ∧ Aside0 (kq ≤ kj55) ∧ Aside0 (Kd.R Kd.string 9 wc w.heap.size (fun _ => True) (.slice (some ad633) t626.length co25) t626) ∧ Aside0 (Kd.R k37 37 wc w.heap.size (fun _ => True) u642000 x642000_3) ∧ Aside0 (wc.heap[gb625]? = some (.cells #[(.slice none 0 0)] 31 (0, 0))) ∧ Aside0 (wc.heap[gb632]? = some (.cells #[.string t629, .int .i64 t630] 23 (0, 0))) ∧ Aside0 (wc.heap[gb637]? = some (.cells #[.string t634, .int .i64 t635] 23 (0, 0))) ∧ Aside0 (wc.heap[gb641]? = some (.cells #[u642000] 31 (0, 0))) ∧ Aside0 (Below w.heap.size w wc))
                   case first =>
                    have H := HC62.out
                    clear HC62
                    by_cases c63 : x14_55 = true
                    ·subst c63
                     have H1 : (if 0 ≤ (wrap64 (((rdOf ByteArray.empty t626 x12_3).size : Int) - 1)) then (if (wrap64 (((rdOf ByteArray.empty t626 x12_3).size : Int) - 1)) ≤ ((rdOf ByteArray.empty t626 x12_3).size : Int) then (squelchref05_Parse.j5 kj55 t626 x11_3 x12_3 ((rdOf ByteArray.empty t626 x12_3).extract 0 ((wrap64 (((rdOf ByteArray.empty t626 x12_3).size : Int) - 1)) : Int).toNat) true x642000_3) else (none)) else (none)) = some (r1, r2) := by rw [if_pos rfl] at H; exact H
                     clear H
                     have H := H1
                     clear H1
                     obtain ⟨ji64, hji64⟩ : ∃ j_ : Int, (wrap64 (((rdOf ByteArray.empty t626 x12_3).size : Int) - 1)) = j_ := ⟨_, rfl⟩
                     replace H : (if 0 ≤ (ji64) then (if (ji64) ≤ ((rdOf ByteArray.empty t626 x12_3).size : Int) then (squelchref05_Parse.j5 kj55 t626 x11_3 x12_3 ((rdOf ByteArray.empty t626 x12_3).extract 0 ((ji64) : Int).toNat) true x642000_3) else (none)) else (none)) = some (r1, r2) := by first | (rw [hji64] at H; exact H) | (simp only [hji64] at H ⊢; exact H)
                     have hji64w : (IntKind.i64.wrap (((rdOf ByteArray.empty t626 x12_3).size : Int) - 1)) = ji64 := (i64_w _).trans hji64
                     by_cases c65 : 0 ≤ (ji64)
                     ·rw [if_pos c65] at H
                      have c65b0 := eq_true c65
                      have c65b1 : decide (0 ≤ (ji64)) = true := decide_eq_true c65
                      clear c65
                      by_cases c66 : (ji64) ≤ ((rdOf ByteArray.empty t626 x12_3).size : Int)
                      ·rw [if_pos c66] at H
                       have c66b0 := eq_true c66
                       have c66b1 : decide ((ji64) ≤ ((rdOf ByteArray.empty t626 x12_3).size : Int)) = true := decide_eq_true c66
                       clear c66
                       have H' := Aside0.mk H
                       clear H
                       go_wp2
                       go_meet
                       case rel => exact ⟨_, ((rdOf ByteArray.empty t626 x12_3).extract 0 ((ji64) : Int).toNat), (by first | rfl | (simp; done) | (simp only [← hji64] <;> (first | rfl | simp)) | (simp [*]; done)), H', ⟨by have := HJ1.out; have := HJ18.out; have := HK3.out; have := HJ55.out; first | omega | exact Nat.le_refl _⟩, ⟨by (with_reducible repeat (first | apply Kd.R_alloc | apply Kd.R_drewN | apply Kd.R_drew)); exact HO_5.out⟩, ⟨by (with_reducible repeat (first | apply Kd.R_alloc | apply Kd.R_drewN | apply Kd.R_drew)); exact HO_642000.out⟩, ⟨by (with_reducible repeat (first | refine blk_drewN ?_ _ | refine blk_drew ?_ | refine blk_alloc ?_ _)); exact BK625.out⟩, ⟨by (with_reducible repeat (first | refine blk_drewN ?_ _ | refine blk_drew ?_ | refine blk_alloc ?_ _)); exact BK632.out⟩, ⟨by (with_reducible repeat (first | refine blk_drewN ?_ _ | refine blk_drew ?_ | refine blk_alloc ?_ _)); exact BK637.out⟩, ⟨by (with_reducible repeat (first | refine blk_drewN ?_ _ | refine blk_drew ?_ | refine blk_alloc ?_ _)); exact BK641.out⟩, ⟨by repeat (first | (with_reducible first | exact HB.out | apply below_alloc | apply pw_below_drewN | apply below_drew1 | refine below_set ?_ GE625.out | refine below_set ?_ GE632.out | refine below_set ?_ GE637.out | refine below_set ?_ GE641.out) | exact HB.out)⟩⟩
                      ·rw [if_neg c66] at H
                       exact absurd H (by simp)
                     ·rw [if_neg c65] at H
                      exact absurd H (by simp)
                    ·replace c63 := Bool.eq_false_iff.mpr c63
                     subst c63
                     have H1 : (squelchref05_Parse.j5 kj55 t626 x11_3 x12_3 (rdOf ByteArray.empty t626 x12_3) false x642000_3) = some (r1, r2) := by rw [if_neg (show ¬ (false = true) by decide)] at H; exact H
                     clear H
                     have H := H1
                     clear H1
                     have H' := Aside0.mk H
                     clear H
                     go_wp2
                     go_meet
                     case rel => exact ⟨_, ((rdOf ByteArray.empty t626 x12_3)), (by first | rfl | (simp; done) | (simp [*]; done) | (simp; exact (fun l : List UInt8 => (by cases l <;> rfl : l.isEmpty = !(l != []))) _)), H', ⟨by have := HJ1.out; have := HJ18.out; have := HK3.out; have := HJ55.out; first | omega | exact Nat.le_refl _⟩, ⟨by (with_reducible repeat (first | apply Kd.R_alloc | apply Kd.R_drewN | apply Kd.R_drew)); exact HO_5.out⟩, ⟨by (with_reducible repeat (first | apply Kd.R_alloc | apply Kd.R_drewN | apply Kd.R_drew)); exact HO_642000.out⟩, ⟨by (with_reducible repeat (first | refine blk_drewN ?_ _ | refine blk_drew ?_ | refine blk_alloc ?_ _)); exact BK625.out⟩, ⟨by (with_reducible repeat (first | refine blk_drewN ?_ _ | refine blk_drew ?_ | refine blk_alloc ?_ _)); exact BK632.out⟩, ⟨by (with_reducible repeat (first | refine blk_drewN ?_ _ | refine blk_drew ?_ | refine blk_alloc ?_ _)); exact BK637.out⟩, ⟨by (with_reducible repeat (first | refine blk_drewN ?_ _ | refine blk_drew ?_ | refine blk_alloc ?_ _)); exact BK641.out⟩, ⟨by repeat (first | (with_reducible first | exact HB.out | apply below_alloc | apply pw_below_drewN | apply below_drew1 | refine below_set ?_ GE625.out | refine below_set ?_ GE632.out | refine below_set ?_ GE637.out | refine below_set ?_ GE641.out) | exact HB.out)⟩⟩
                   case rest =>
                    clear HC62
                    try clear c1
                    try clear c2
                    try clear p2
                    try clear c3
                    try clear c4
                    try clear c4b0
                    try clear c5
                    try clear c5b0
                    try clear c6
                    try clear p6
                    try clear q6
                    try clear hx6
                    try clear qi6
                    try clear c7
                    try clear c7b0
                    try clear c7b1
                    try clear c8
                    try clear c8b0
                    try clear c8b1
                    try clear c11
                    try clear c11b0
                    try clear c11b1
                    try clear c12
                    try clear c12b0
                    try clear c12b1
                    try clear c14
                    try clear c14b0
                    try clear c14b1
                    try clear c15
                    try clear c15b0
                    try clear c15b1
                    try clear c17
                    try clear c17b0
                    try clear c17b1
                    try clear c23
                    try clear c28
                    try clear c29
                    try clear c31
                    try clear c32
                    try clear c33
                    try clear c34
                    try clear c36
                    try clear c37
                    try clear c39
                    try clear c44
                    try clear c45
                    try clear c46
                    try clear c47
                    try clear c49
                    try clear c49b0
                    try clear c50
                    try clear c50b0
                    try clear c51
                    try clear c51b0
                    try clear c51b1
                    try clear c52
                    try clear c53
                    try clear c54
                    try clear c57
                    try clear c57b0
                    try clear c57b1
                    try clear c59
                    try clear c59b0
                    try clear c60
                    try clear c60b0
                    try clear p61
                    try clear q61
                    try clear hx61
                    try clear c63
                    try clear p63
                    try clear q63
                    try clear hx63
                    try clear qi63
                    try clear p64
                    try clear q64
                    try clear hx64
                    try clear c65
                    try clear c65b0
                    try clear c65b1
                    try clear c66
                    try clear c66b0
                    try clear c66b1
                    try clear hcz24_0
                    try clear hcz24_1
                    try clear hcz30_0
                    try clear hcz30_1
                    try clear hcz35_0
                    try clear hcz38_0
                    try clear hcz38_1
                    try clear hcz40_0
                    try clear hcz40_1
                    try clear hcz48_0
                    try clear hcz55_0
                    try clear hcz9_0
                    try clear hfz24_0
                    try clear hfz24_1
                    try clear hfz30_0
                    try clear hfz30_1
                    try clear hfz35_0
                    try clear hfz38_0
                    try clear hfz38_1
                    try clear hfz40_0
                    try clear hfz40_1
                    try clear hfz48_0
                    try clear hfz55_0
                    try clear hfz9_0
                    try clear hx633_0
                    try clear hx642_0
                    try clear p2
                    try clear p6
                    try clear p61
                    try clear p633
                    try clear p642
                    try clear q6
                    try clear q61
                    try clear q633
                    try clear q642
                    obtain ⟨kq, x13_61, rfl, HA, HJ61, HO_5, HO_642000, BK625, BK632, BK637, BK641, HB⟩ := hcut
                    cases kq with
                    | zero => exact absurd HA.out (by simp [squelchref05_Parse.j5])
                    | succ kj61 =>
                     have H := HA.out
                     clear HA
                     simp only [squelchref05_Parse.j5] at H
                     replace H := Option.bind_eq_some_iff.mp H
                     obtain ⟨⟨t643, t644, t645⟩, A670, H⟩ := H
                     replace H : (if t645 = true then (if x642000_3.length < 4398046511104 then ((some (x642000_3 ++ [(⟨(⟨t643, t644⟩ : S23), false⟩ : S37)] : List (S37))).bind fun y647 => (if x14_55 = true then (squelchref05_Parse.l2 kj61 t626 (wrap64 (x11_3 + 1)) x12_3 2 y647) else (squelchref05_Parse.l1 kj61 t626 x11_3 (wrap64 (x12_3 + 1)) y647))) else (none)) else (some (([] : List (S37)), 12))) = some (r1, r2) := H
                     have A67 := Aside0.mk A670
                     clear A670
                     by_cases c68 : t645 = true
                     ·subst c68
                      have H1 : (if x642000_3.length < 4398046511104 then ((some (x642000_3 ++ [(⟨(⟨t643, t644⟩ : S23), false⟩ : S37)] : List (S37))).bind fun y647 => (if x14_55 = true then (squelchref05_Parse.l2 kj61 t626 (wrap64 (x11_3 + 1)) x12_3 2 y647) else (squelchref05_Parse.l1 kj61 t626 x11_3 (wrap64 (x12_3 + 1)) y647))) else (none)) = some (r1, r2) := by rw [if_pos rfl] at H; exact H
                      clear H
                      have H := H1
                      clear H1
                      by_cases c69 : x642000_3.length < 4398046511104
                      ·rw [if_pos c69] at H
                       have LMc69 := Aside0.mk c69
                       clear c69
                       obtain ⟨y647, hy647⟩ : ∃ y_ : List (S37), y_ = (x642000_3 ++ [(⟨(⟨t643, t644⟩ : S23), false⟩ : S37)]) := ⟨_, rfl⟩
                       replace H : (if x14_55 = true then (squelchref05_Parse.l2 kj61 t626 (wrap64 (x11_3 + 1)) x12_3 2 y647) else (squelchref05_Parse.l1 kj61 t626 x11_3 (wrap64 (x12_3 + 1)) y647)) = some (r1, r2) := by first | (rw [hy647]; with_reducible exact H) | (have H2_ := (Option.bind_some _ _).symm.trans H; rw [hy647]; with_reducible exact H2_) | (have H2_ := (Option.bind_some _ _).symm.trans H; with_reducible exact H2_) | with_reducible exact H | (rw [hy647]; exact H) | exact H
                       have Ny647 := Aside0.mk hy647
                       clear hy647
                       by_cases c70 : x14_55 = true
                       ·subst c70
                        have H1 : (squelchref05_Parse.l2 kj61 t626 (wrap64 (x11_3 + 1)) x12_3 2 y647) = some (r1, r2) := by rw [if_pos rfl] at H; exact H
                        clear H
                        have H := H1
                        clear H1
                        have H' := Aside0.mk H
                        clear H
                        go_wp2_with (first | ((with_reducible refine gate_callee (f := 44) rfl ?_); refine goesL_ (some 99) rfl rfl Tryd.func44 (by kernel_rfl) rfl #[.string x13_61] rfl (by (try simp only [List.map_toArray, List.map_cons, List.map_nil]); first | done | rfl | (simp only [List.length_drop, List.length_take]; rfl)) ?_; (with_reducible refine (squelchref04_Parse.calls kj61 x13_61 t643 t644 true _ A67.out).mono ?_); rintro e w71 ⟨rfl, hb⟩; refine ⟨_, rfl, ?_⟩; have n0_ := Aside0.mk (Kd.R_below (by (with_reducible repeat (first | apply Kd.R_alloc | apply Kd.R_drewN | apply Kd.R_drew)); exact HO_5.out) hb); have n1_ := Aside0.mk (Kd.R_below (by (with_reducible repeat (first | apply Kd.R_alloc | apply Kd.R_drewN | apply Kd.R_drew)); exact HO_642000.out) hb); have n2_ := Aside0.mk (blk_below (g := gb625) (o := .cells #[.slice none 0 0] 31 (0, 0)) (by (with_reducible repeat (first | refine blk_drewN ?_ _ | refine blk_drew ?_ | refine blk_alloc ?_ _)); exact BK625.out) hb); have n3_ := Aside0.mk (blk_below (g := gb632) (o := .cells #[.string t629, .int .i64 t630] 23 (0, 0)) (by (with_reducible repeat (first | refine blk_drewN ?_ _ | refine blk_drew ?_ | refine blk_alloc ?_ _)); exact BK632.out) hb); have n4_ := Aside0.mk (blk_below (g := gb637) (o := .cells #[.string t634, .int .i64 t635] 23 (0, 0)) (by (with_reducible repeat (first | refine blk_drewN ?_ _ | refine blk_drew ?_ | refine blk_alloc ?_ _)); exact BK637.out) hb); have n5_ := Aside0.mk (blk_below (g := gb641) (o := .cells #[u642000] 31 (0, 0)) (by (with_reducible repeat (first | refine blk_drewN ?_ _ | refine blk_drew ?_ | refine blk_alloc ?_ _)); exact BK641.out) hb); have n6_ := Aside0.mk (below_step (by repeat (first | (with_reducible first | exact HB.out | apply below_alloc | apply pw_below_drewN | apply below_drew1 | refine below_set ?_ GE625.out | refine below_set ?_ GE632.out | refine below_set ?_ GE637.out | refine below_set ?_ GE641.out) | exact HB.out)) hb); clear HO_5; clear HO_642000; clear BK625; clear BK632; clear BK637; clear BK641; clear HB; have HO_5 := n0_; have HO_642000 := n1_; have BK625 := n2_; have BK632 := n3_; have BK637 := n4_; have BK641 := n5_; have HB := n6_; clear n0_ n1_ n2_ n3_ n4_ n5_ n6_; (try clear hb); (try clear hb2); (try clear hk); (try clear hi)) | ((with_reducible refine gate_dst (N := 15) rfl ?_); (try (refine gate_guard (by rfl) ?_; dsimp only)); refine box_event ?hg (N := 15) ?hd (cs := #[.string (⟨#[]⟩ : ByteArray), .int .i64 0]) (t := 23) ?hr ?_; (case hd => rfl); (case hg => rfl); (case hr => first | (go_simp; done) | (go_simp; rfl)); intro gb646 hg w72 hbox hb; have n0_ := Aside0.mk (Kd.R_below (by (with_reducible repeat (first | apply Kd.R_alloc | apply Kd.R_drewN | apply Kd.R_drew)); exact HO_5.out) hb); have n1_ := Aside0.mk (Kd.R_below (by (with_reducible repeat (first | apply Kd.R_alloc | apply Kd.R_drewN | apply Kd.R_drew)); exact HO_642000.out) hb); have n2_ := Aside0.mk (blk_below (g := gb625) (o := .cells #[.slice none 0 0] 31 (0, 0)) (by (with_reducible repeat (first | refine blk_drewN ?_ _ | refine blk_drew ?_ | refine blk_alloc ?_ _)); exact BK625.out) hb); have n3_ := Aside0.mk (blk_below (g := gb632) (o := .cells #[.string t629, .int .i64 t630] 23 (0, 0)) (by (with_reducible repeat (first | refine blk_drewN ?_ _ | refine blk_drew ?_ | refine blk_alloc ?_ _)); exact BK632.out) hb); have n4_ := Aside0.mk (blk_below (g := gb637) (o := .cells #[.string t634, .int .i64 t635] 23 (0, 0)) (by (with_reducible repeat (first | refine blk_drewN ?_ _ | refine blk_drew ?_ | refine blk_alloc ?_ _)); exact BK637.out) hb); have n5_ := Aside0.mk (blk_below (g := gb641) (o := .cells #[u642000] 31 (0, 0)) (by (with_reducible repeat (first | refine blk_drewN ?_ _ | refine blk_drew ?_ | refine blk_alloc ?_ _)); exact BK641.out) hb); have n6_ := Aside0.mk (below_step (by repeat (first | (with_reducible first | exact HB.out | apply below_alloc | apply pw_below_drewN | apply below_drew1 | refine below_set ?_ GE625.out | refine below_set ?_ GE632.out | refine below_set ?_ GE637.out | refine below_set ?_ GE641.out) | exact HB.out)) hb); have n7_ := Aside0.mk (hbox); have n8_ := Aside0.mk ((by rw [hg]; exact (below_size (by repeat (first | (with_reducible first | exact HB.out | apply below_alloc | apply pw_below_drewN | apply below_drew1 | refine below_set ?_ GE625.out | refine below_set ?_ GE632.out | refine below_set ?_ GE637.out | refine below_set ?_ GE641.out) | exact HB.out))) : w.heap.size ≤ gb646)); have n9_ := Aside0.mk ((by rw [hg]; exact (below_size (by repeat (first | (with_reducible first | exact HB.out | apply below_alloc | apply pw_below_drewN | apply below_drew1 | refine below_set ?_ GE625.out | refine below_set ?_ GE632.out | refine below_set ?_ GE637.out | refine below_set ?_ GE641.out) | exact HB.out))) : w.heap.size ≤ gb646)); have n10_ := Aside0.mk ((by rw [hg]; exact Nat.ne_of_lt (blk_lt (g := gb625) (o := .cells #[.slice none 0 0] 31 (0, 0)) (by (with_reducible repeat (first | refine blk_drewN ?_ _ | refine blk_drew ?_ | refine blk_alloc ?_ _)); exact BK625.out)) : gb625 ≠ gb646)); have n11_ := Aside0.mk ((by rw [hg]; exact Nat.ne_of_gt (blk_lt (g := gb625) (o := .cells #[.slice none 0 0] 31 (0, 0)) (by (with_reducible repeat (first | refine blk_drewN ?_ _ | refine blk_drew ?_ | refine blk_alloc ?_ _)); exact BK625.out)) : gb646 ≠ gb625)); have n12_ := Aside0.mk ((by rw [hg]; exact Nat.ne_of_lt (blk_lt (g := gb632) (o := .cells #[.string t629, .int .i64 t630] 23 (0, 0)) (by (with_reducible repeat (first | refine blk_drewN ?_ _ | refine blk_drew ?_ | refine blk_alloc ?_ _)); exact BK632.out)) : gb632 ≠ gb646)); have n13_ := Aside0.mk ((by rw [hg]; exact Nat.ne_of_gt (blk_lt (g := gb632) (o := .cells #[.string t629, .int .i64 t630] 23 (0, 0)) (by (with_reducible repeat (first | refine blk_drewN ?_ _ | refine blk_drew ?_ | refine blk_alloc ?_ _)); exact BK632.out)) : gb646 ≠ gb632)); have n14_ := Aside0.mk ((by rw [hg]; exact Nat.ne_of_lt (blk_lt (g := gb637) (o := .cells #[.string t634, .int .i64 t635] 23 (0, 0)) (by (with_reducible repeat (first | refine blk_drewN ?_ _ | refine blk_drew ?_ | refine blk_alloc ?_ _)); exact BK637.out)) : gb637 ≠ gb646)); have n15_ := Aside0.mk ((by rw [hg]; exact Nat.ne_of_gt (blk_lt (g := gb637) (o := .cells #[.string t634, .int .i64 t635] 23 (0, 0)) (by (with_reducible repeat (first | refine blk_drewN ?_ _ | refine blk_drew ?_ | refine blk_alloc ?_ _)); exact BK637.out)) : gb646 ≠ gb637)); have n16_ := Aside0.mk ((by rw [hg]; exact Nat.ne_of_lt (blk_lt (g := gb641) (o := .cells #[u642000] 31 (0, 0)) (by (with_reducible repeat (first | refine blk_drewN ?_ _ | refine blk_drew ?_ | refine blk_alloc ?_ _)); exact BK641.out)) : gb641 ≠ gb646)); have n17_ := Aside0.mk ((by rw [hg]; exact Nat.ne_of_gt (blk_lt (g := gb641) (o := .cells #[u642000] 31 (0, 0)) (by (with_reducible repeat (first | refine blk_drewN ?_ _ | refine blk_drew ?_ | refine blk_alloc ?_ _)); exact BK641.out)) : gb646 ≠ gb641)); clear HO_5; clear HO_642000; clear BK625; clear BK632; clear BK637; clear BK641; clear HB; have HO_5 := n0_; have HO_642000 := n1_; have BK625 := n2_; have BK632 := n3_; have BK637 := n4_; have BK641 := n5_; have HB := n6_; have BK646 := n7_; have GW646 := n8_; have GE646 := n9_; have NB625_646 := n10_; have NB646_625 := n11_; have NB632_646 := n12_; have NB646_632 := n13_; have NB637_646 := n14_; have NB646_637 := n15_; have NB641_646 := n16_; have NB646_641 := n17_; clear n0_ n1_ n2_ n3_ n4_ n5_ n6_ n7_ n8_ n9_ n10_ n11_ n12_ n13_ n14_ n15_ n16_ n17_; clear hb hbox hg; have hnb73 := NB646_625.out; have hnc73 := NB625_646.out; have hnb74 := NB646_632.out; have hnc74 := NB632_646.out; have hnb75 := NB646_637.out; have hnc75 := NB637_646.out; have hnb76 := NB646_641.out; have hnc76 := NB641_646.out; have hcz77_0 : w72.cell? ⟨gb646, 0, none⟩ = some (.string (⟨#[]⟩ : ByteArray)) := (blk_cell BK646.out 0).trans rfl; have hcz77_1 : w72.cell? ⟨gb646, 1, none⟩ = some (.int .i64 0) := (blk_cell BK646.out 1).trans rfl; have hfz77_0 := blk_frozen BK646.out 0; have hfz77_1 := blk_frozen BK646.out 1; have hnb78 := NB641_625.out; have hnc78 := NB625_641.out; have hnb79 := NB641_632.out; have hnc79 := NB632_641.out; have hnb80 := NB641_637.out; have hnc80 := NB637_641.out; have hcz81_0 : w72.cell? ⟨gb641, 0, none⟩ = some (u642000) := (blk_cell BK641.out 0).trans rfl; have hfz81_0 := blk_frozen BK641.out 0) | ((with_reducible refine gate_builtin (b := .append) (xs := #[.tmp 106, .tmp 109]) rfl ?_); (try (refine gate_guard (by rfl) ?_; dsimp only)); at_builtin; refine Kd.R_append k37 (w0 := w) w.heap.size rfl (.tmp 106) (.tmp 109) 29 37 (.agg #[(.string ⟨#[]⟩), (.int .i64 0), (.bool false)]) 32 rfl Tryd.underlying29 info37 rfl (by decide) (by omega) u642000 x642000_3 (⟨(⟨t643, t644⟩ : S23), false⟩ : S37) [.string t643, .int .i64 t644, .bool false] (fun _ => True) (fun _ => False) rfl (by first | (go_simp; done) | (go_simp; rfl)) ?aP (fun _ hk => hk.elim) ?aF ?aO ?aB ?aS ?aL ?_; (case aP => exact k37_mkM _ _ _ (⟨(⟨t643, t644⟩ : S23), false⟩ : S37)); (case aB => exact (by repeat (first | (with_reducible first | exact HB.out | apply below_alloc | apply pw_below_drewN | apply below_drew1 | refine below_set ?_ GE625.out | refine below_set ?_ GE632.out | refine below_set ?_ GE637.out | refine below_set ?_ GE641.out | refine below_set ?_ GE646.out) | exact HB.out))); (case aF => exact (fun _ _ => trivial)); (case aO => exact (by (with_reducible repeat (first | apply Kd.R_alloc | apply Kd.R_drewN | apply Kd.R_drew)); exact Kd.R_mono (Kd.R_far (p := ⟨gb646, 1, none⟩) (Kd.R_far (p := ⟨gb646, 0, none⟩) (Kd.R_types HO_642000.out BK646.out (by decide)) (fun _ hk => hk.2) (.string t643)) (fun _ hk => hk.2) (.int .i64 t644)) (fun _ hk => trivial))); (case aS => exact (below_size (by repeat (first | (with_reducible first | exact HB.out | apply below_alloc | apply pw_below_drewN | apply below_drew1 | refine below_set ?_ GE625.out | refine below_set ?_ GE632.out | refine below_set ?_ GE637.out | refine below_set ?_ GE641.out | refine below_set ?_ GE646.out) | exact HB.out)))); (case aL => have := LMc69.out; omega); intro v648 w82 ho hb hg hat; rw [← Ny647.out] at ho; have n0_ := Aside0.mk (Kd.R_over' (by (with_reducible repeat (first | apply Kd.R_alloc | apply Kd.R_drewN | apply Kd.R_drew)); exact (Kd.R_mono (Kd.R_far (p := ⟨gb646, 1, none⟩) (Kd.R_far (p := ⟨gb646, 0, none⟩) (Kd.R_types HO_5.out BK646.out (by decide)) (fun _ hk => hk.2) (.string t643)) (fun _ hk => hk.2) (.int .i64 t644)) (fun _ h_ => h_.1))) (Kd.R_typed (by (with_reducible repeat (first | apply Kd.R_alloc | apply Kd.R_drewN | apply Kd.R_drew)); exact (Kd.R_mono (Kd.R_far (p := ⟨gb646, 1, none⟩) (Kd.R_far (p := ⟨gb646, 0, none⟩) (Kd.R_types HO_642000.out BK646.out (by decide)) (fun _ hk => hk.2) (.string t643)) (fun _ hk => hk.2) (.int .i64 t644)) (fun _ h_ => h_.1)))) (by decide) hg); have n1_ := Aside0.mk (blk_grown (g := gb625) (o := .cells #[.slice none 0 0] 31 (0, 0)) (by (with_reducible repeat (first | refine blk_drewN ?_ _ | refine blk_drew ?_ | refine blk_alloc ?_ _)); refine blk_far ?_ NB625_646.out _; (with_reducible repeat (first | refine blk_drewN ?_ _ | refine blk_drew ?_ | refine blk_alloc ?_ _)); refine blk_far ?_ NB625_646.out _; (with_reducible repeat (first | refine blk_drewN ?_ _ | refine blk_drew ?_ | refine blk_alloc ?_ _)); exact BK625.out) hg (Kd.R_ne HO_642000.out BK625.out (by decide))); have n2_ := Aside0.mk (blk_grown (g := gb632) (o := .cells #[.string t629, .int .i64 t630] 23 (0, 0)) (by (with_reducible repeat (first | refine blk_drewN ?_ _ | refine blk_drew ?_ | refine blk_alloc ?_ _)); refine blk_far ?_ NB632_646.out _; (with_reducible repeat (first | refine blk_drewN ?_ _ | refine blk_drew ?_ | refine blk_alloc ?_ _)); refine blk_far ?_ NB632_646.out _; (with_reducible repeat (first | refine blk_drewN ?_ _ | refine blk_drew ?_ | refine blk_alloc ?_ _)); exact BK632.out) hg (Kd.R_ne HO_642000.out BK632.out (by decide))); have n3_ := Aside0.mk (blk_grown (g := gb637) (o := .cells #[.string t634, .int .i64 t635] 23 (0, 0)) (by (with_reducible repeat (first | refine blk_drewN ?_ _ | refine blk_drew ?_ | refine blk_alloc ?_ _)); refine blk_far ?_ NB637_646.out _; (with_reducible repeat (first | refine blk_drewN ?_ _ | refine blk_drew ?_ | refine blk_alloc ?_ _)); refine blk_far ?_ NB637_646.out _; (with_reducible repeat (first | refine blk_drewN ?_ _ | refine blk_drew ?_ | refine blk_alloc ?_ _)); exact BK637.out) hg (Kd.R_ne HO_642000.out BK637.out (by decide))); have n4_ := Aside0.mk (blk_grown (g := gb641) (o := .cells #[u642000] 31 (0, 0)) (by (with_reducible repeat (first | refine blk_drewN ?_ _ | refine blk_drew ?_ | refine blk_alloc ?_ _)); refine blk_far ?_ NB641_646.out _; (with_reducible repeat (first | refine blk_drewN ?_ _ | refine blk_drew ?_ | refine blk_alloc ?_ _)); refine blk_far ?_ NB641_646.out _; (with_reducible repeat (first | refine blk_drewN ?_ _ | refine blk_drew ?_ | refine blk_alloc ?_ _)); exact BK641.out) hg (Kd.R_ne HO_642000.out BK641.out (by decide))); have n5_ := Aside0.mk (blk_grown (g := gb646) (o := .cells #[.string t643, .int .i64 t644] 23 (0, 0)) (by (with_reducible repeat (first | refine blk_drewN ?_ _ | refine blk_drew ?_ | refine blk_alloc ?_ _)); refine blk_put (cs := #[.string t643, .int .i64 0]) ?_ 1 _ rfl; (with_reducible repeat (first | refine blk_drewN ?_ _ | refine blk_drew ?_ | refine blk_alloc ?_ _)); refine blk_put (cs := #[.string (⟨#[]⟩ : ByteArray), .int .i64 0]) ?_ 0 _ rfl; (with_reducible repeat (first | refine blk_drewN ?_ _ | refine blk_drew ?_ | refine blk_alloc ?_ _)); exact BK646.out) hg (Kd.R_ne HO_642000.out BK646.out (by decide))); have n6_ := Aside0.mk (hb); have n7_ := Aside0.mk (ho); clear HO_5; clear BK625; clear BK632; clear BK637; clear BK641; clear BK646; clear HB; clear HO_642000; have HO_5 := n0_; have BK625 := n1_; have BK632 := n2_; have BK637 := n3_; have BK641 := n4_; have BK646 := n5_; have HB := n6_; have HO649 := n7_; clear n0_ n1_ n2_ n3_ n4_ n5_ n6_ n7_; clear ho hb hg hat; obtain ⟨Ao83, co83, eo83⟩ := Kd.R_slice HO649.out; subst eo83; have hcz84_0 : w82.cell? ⟨gb641, 0, none⟩ = some (u642000) := (blk_cell BK641.out 0).trans rfl; have hfz84_0 := blk_frozen BK641.out 0))
                        go_loopg [17] kj61 (fun kq v17 w' => ∃ (x17_6 : Int) (x642000_6 : List (S37)) (u642000 : Value), v17 = .int .i64 x17_6 ∧ Aside0 (squelchref05_Parse.l2 kq t626 (wrap64 (x11_3 + 1)) x12_3 x17_6 x642000_6 = some (r1, r2)) ∧ Aside0 (kq ≤ kj61) ∧ Aside0 (Kd.R Kd.string 9 w' w.heap.size (fun _ => True) (.slice (some ad633) t626.length co25) t626) ∧ Aside0 (Kd.R k37 37 w' w.heap.size (fun _ => True) u642000 x642000_6) ∧ Aside0 (w'.heap[gb625]? = some (.cells #[(.slice none 0 0)] 31 (0, 0))) ∧ Aside0 (w'.heap[gb632]? = some (.cells #[.string t629, .int .i64 t630] 23 (0, 0))) ∧ Aside0 (w'.heap[gb637]? = some (.cells #[.string t634, .int .i64 t635] 23 (0, 0))) ∧ Aside0 (w'.heap[gb641]? = some (.cells #[u642000] 31 (0, 0))) ∧ Aside0 (w'.heap[gb646]? = some (.cells #[.string t643, .int .i64 t644] 23 (0, 0))) ∧ Aside0 (Below w.heap.size w w'))
                        case atStart => exact ⟨(2), (y647), (.slice Ao83 y647.length co83), (by first | rfl | (simp; done) | (simp [*]; done) | (simp; exact (fun l : List UInt8 => (by cases l <;> rfl : l.isEmpty = !(l != []))) _)), H', ⟨Nat.le_refl _⟩, ⟨by (with_reducible repeat (first | apply Kd.R_alloc | apply Kd.R_drewN | apply Kd.R_drew)); exact Kd.R_mono (Kd.R_far (p := ⟨gb641, 0, none⟩) (Kd.R_types HO_5.out BK641.out (by decide)) (fun _ hk => hk.2) (.slice Ao83 y647.length co83)) (fun _ hk => trivial)⟩, ⟨by (with_reducible repeat (first | apply Kd.R_alloc | apply Kd.R_drewN | apply Kd.R_drew)); exact Kd.R_mono (Kd.R_far (p := ⟨gb641, 0, none⟩) (Kd.R_types HO649.out BK641.out (by decide)) (fun _ hk => hk.2) (.slice Ao83 y647.length co83)) (fun _ hk => trivial)⟩, ⟨by (with_reducible repeat (first | refine blk_drewN ?_ _ | refine blk_drew ?_ | refine blk_alloc ?_ _)); refine blk_far ?_ NB625_641.out _; (with_reducible repeat (first | refine blk_drewN ?_ _ | refine blk_drew ?_ | refine blk_alloc ?_ _)); exact BK625.out⟩, ⟨by (with_reducible repeat (first | refine blk_drewN ?_ _ | refine blk_drew ?_ | refine blk_alloc ?_ _)); refine blk_far ?_ NB632_641.out _; (with_reducible repeat (first | refine blk_drewN ?_ _ | refine blk_drew ?_ | refine blk_alloc ?_ _)); exact BK632.out⟩, ⟨by (with_reducible repeat (first | refine blk_drewN ?_ _ | refine blk_drew ?_ | refine blk_alloc ?_ _)); refine blk_far ?_ NB637_641.out _; (with_reducible repeat (first | refine blk_drewN ?_ _ | refine blk_drew ?_ | refine blk_alloc ?_ _)); exact BK637.out⟩, ⟨by (with_reducible repeat (first | refine blk_drewN ?_ _ | refine blk_drew ?_ | refine blk_alloc ?_ _)); refine blk_put (cs := #[u642000]) ?_ 0 _ rfl; (with_reducible repeat (first | refine blk_drewN ?_ _ | refine blk_drew ?_ | refine blk_alloc ?_ _)); exact BK641.out⟩, ⟨by (with_reducible repeat (first | refine blk_drewN ?_ _ | refine blk_drew ?_ | refine blk_alloc ?_ _)); refine blk_far ?_ NB646_641.out _; (with_reducible repeat (first | refine blk_drewN ?_ _ | refine blk_drew ?_ | refine blk_alloc ?_ _)); exact BK646.out⟩, ⟨by repeat (first | (with_reducible first | exact HB.out | apply below_alloc | apply pw_below_drewN | apply below_drew1 | refine below_set ?_ GE625.out | refine below_set ?_ GE632.out | refine below_set ?_ GE637.out | refine below_set ?_ GE641.out | refine below_set ?_ GE646.out) | exact HB.out)⟩⟩
                        case round =>
                         clear H'
                         try clear c1
                         try clear c2
                         try clear p2
                         try clear c3
                         try clear c4
                         try clear c4b0
                         try clear c5
                         try clear c5b0
                         try clear c6
                         try clear p6
                         try clear q6
                         try clear hx6
                         try clear qi6
                         try clear c7
                         try clear c7b0
                         try clear c7b1
                         try clear c8
                         try clear c8b0
                         try clear c8b1
                         try clear c11
                         try clear c11b0
                         try clear c11b1
                         try clear c12
                         try clear c12b0
                         try clear c12b1
                         try clear c14
                         try clear c14b0
                         try clear c14b1
                         try clear c15
                         try clear c15b0
                         try clear c15b1
                         try clear c17
                         try clear c17b0
                         try clear c17b1
                         try clear c23
                         try clear c28
                         try clear c29
                         try clear c31
                         try clear c32
                         try clear c33
                         try clear c34
                         try clear c36
                         try clear c37
                         try clear c39
                         try clear c44
                         try clear c45
                         try clear c46
                         try clear c47
                         try clear c49
                         try clear c49b0
                         try clear c50
                         try clear c50b0
                         try clear c51
                         try clear c51b0
                         try clear c51b1
                         try clear c52
                         try clear c53
                         try clear c54
                         try clear c57
                         try clear c57b0
                         try clear c57b1
                         try clear c59
                         try clear c59b0
                         try clear c60
                         try clear c60b0
                         try clear p61
                         try clear q61
                         try clear hx61
                         try clear c63
                         try clear p63
                         try clear q63
                         try clear hx63
                         try clear qi63
                         try clear p64
                         try clear q64
                         try clear hx64
                         try clear c65
                         try clear c65b0
                         try clear c65b1
                         try clear c66
                         try clear c66b0
                         try clear c66b1
                         try clear c68
                         try clear c69
                         try clear c70
                         try clear c73
                         try clear c74
                         try clear c75
                         try clear c76
                         try clear c78
                         try clear c79
                         try clear c80
                         try clear hcz24_0
                         try clear hcz24_1
                         try clear hcz30_0
                         try clear hcz30_1
                         try clear hcz35_0
                         try clear hcz38_0
                         try clear hcz38_1
                         try clear hcz40_0
                         try clear hcz40_1
                         try clear hcz48_0
                         try clear hcz55_0
                         try clear hcz77_0
                         try clear hcz77_1
                         try clear hcz81_0
                         try clear hcz84_0
                         try clear hcz9_0
                         try clear hfz24_0
                         try clear hfz24_1
                         try clear hfz30_0
                         try clear hfz30_1
                         try clear hfz35_0
                         try clear hfz38_0
                         try clear hfz38_1
                         try clear hfz40_0
                         try clear hfz40_1
                         try clear hfz48_0
                         try clear hfz55_0
                         try clear hfz77_0
                         try clear hfz77_1
                         try clear hfz81_0
                         try clear hfz84_0
                         try clear hfz9_0
                         try clear hx633_0
                         try clear hx642_0
                         try clear p2
                         try clear p6
                         try clear p61
                         try clear p63
                         try clear p633
                         try clear p64
                         try clear p642
                         try clear q6
                         try clear q61
                         try clear q63
                         try clear q633
                         try clear q64
                         try clear q642
                         obtain ⟨x17_6, x642000_6, u642000, rfl, HA, HK6, HO_5, HO_642000, BK625, BK632, BK637, BK641, BK646, HB⟩ := hrel
                         cases gk with
                         | zero => exact absurd HA.out (by simp [squelchref05_Parse.l2])
                         | succ k6 =>
                          have H := HA.out
                          clear HA
                          simp only [squelchref05_Parse.l2] at H
                          by_cases c85 : x17_6 < (x642000_6.length : Int)
                          ·rw [if_pos c85] at H
                           have c85b0 : decide (x17_6 < (x642000_6.length : Int)) = true := decide_eq_true c85
                           clear c85
                           by_cases c86 : 0 ≤ x17_6
                           ·rw [if_pos c86] at H
                            have c86b0 : decide (0 ≤ x17_6) = true := decide_eq_true c86
                            clear c86
                            obtain ⟨y650, hy650⟩ : ∃ y_ : List (S37), y_ = (x642000_6.set (x17_6 : Int).toNat (⟨(⟨(rd_T37 x642000_6 x17_6).f0.f0, (rd_T37 x642000_6 x17_6).f0.f1⟩ : S23), true⟩ : S37)) := ⟨_, rfl⟩
                            replace H : (squelchref05_Parse.l2 k6 t626 (wrap64 (x11_3 + 1)) x12_3 (wrap64 (x17_6 + 1)) y650) = some (r1, r2) := by first | (rw [hy650]; with_reducible exact H) | (have H2_ := (Option.bind_some _ _).symm.trans H; rw [hy650]; with_reducible exact H2_) | (have H2_ := (Option.bind_some _ _).symm.trans H; with_reducible exact H2_) | with_reducible exact H | (rw [hy650]; exact H) | exact H
                            have Ny650 := Aside0.mk hy650
                            clear hy650
                            have H' := Aside0.mk H
                            clear H
                            have hnb88 := NB641_625.out
                            have hnc88 := NB625_641.out
                            have hnb89 := NB641_632.out
                            have hnc89 := NB632_641.out
                            have hnb90 := NB641_637.out
                            have hnc90 := NB637_641.out
                            have hnb91 := NB641_646.out
                            have hnc91 := NB646_641.out
                            have hcz92_0 : wr.cell? ⟨gb641, 0, none⟩ = some (u642000) := (blk_cell BK641.out 0).trans rfl
                            have hfz92_0 := blk_frozen BK641.out 0
                            obtain ⟨Ao93, co93, eo93⟩ := Kd.R_slice HO_642000.out
                            subst eo93
                            have p87 : 0 ≤ (x17_6 : Int) := of_decide_eq_true (by first | (with_reducible assumption) | assumption)
                            have q87 : (x17_6 : Int) < ((x642000_6.length : Int) : Int) := of_decide_eq_true (by first | (with_reducible assumption) | assumption)
                            obtain ⟨go87, co87, eo87, gb87, gl87, cl87, HG87⟩ := Kd.R_form HO_642000.out (by omega)
                            (first | cases eo87 | (injection eo87 with ea_ en_ ec_; (first | subst ea_ | (injection ea_ with ea_; subst ea_)); subst ec_; clear en_))
                            have GB87 := Aside0.mk gb87
                            have GG87 := Aside0.mk HG87
                            clear gb87 gl87 HG87
                            obtain ⟨ce87, hcl87, hM87, hcc87, hfr87⟩ := Kd.R_elem HO_642000.out z37 (x17_6 : Int) p87 q87
                            obtain rfl := k37_openM hM87
                            have hx87_0 : wr.cell? ⟨go87, (x17_6 : Int).toNat * 3, none⟩ = some (.string ((rd_T37 x642000_6 x17_6).f0.f0)) := hcc87 0 _ rfl
                            have hx87_1 : wr.cell? ⟨go87, (x17_6 : Int).toNat * 3 + 1, none⟩ = some (.int .i64 ((rd_T37 x642000_6 x17_6).f0.f1)) := hcc87 1 _ rfl
                            have hx87_2 : wr.cell? ⟨go87, (x17_6 : Int).toNat * 3 + 2, none⟩ = some (.bool ((rd_T37 x642000_6 x17_6).f1)) := hcc87 2 _ rfl
                            have hf87_0 : wr.frozen? ⟨go87, (x17_6 : Int).toNat * 3, none⟩ = false := hfr87 0
                            have hf87_1 : wr.frozen? ⟨go87, (x17_6 : Int).toNat * 3 + 1, none⟩ = false := hfr87 1
                            have hf87_2 : wr.frozen? ⟨go87, (x17_6 : Int).toNat * 3 + 2, none⟩ = false := hfr87 2
                            clear hcl87 hcc87 hfr87 hM87
                            replace p87 := eq_true p87
                            replace q87 := eq_true q87
                            have HX94 := Aside0.mk (show Kd.R k37 37 wr w.heap.size (fun _ => True) (.slice (some ⟨go87, 0, none⟩) x642000_6.length co93) x642000_6 from (by (with_reducible repeat (first | apply Kd.R_alloc | apply Kd.R_drewN | apply Kd.R_drew)); exact HO_642000.out))
                            obtain ⟨ce94, hcl94, hM94, hcc94, hfr94⟩ := Kd.R_elem HX94.out z37 (x17_6 : Int) (of_decide_eq_true (by first | (with_reducible assumption) | assumption)) (by have h_ : (x17_6 : Int) < ((x642000_6.length : Int) : Int) := of_decide_eq_true (by first | (with_reducible assumption) | assumption); first | exact h_ | (have e_ := (Kd.R_reads' HO_642000.out).1; omega) | simpa using h_)
                            obtain rfl := k37_openM hM94
                            have HP94 := Kd.R_seg HX94.out (x17_6 : Int) (of_decide_eq_true (by first | (with_reducible assumption) | assumption)) (by have h_ : (x17_6 : Int) < ((x642000_6.length : Int) : Int) := of_decide_eq_true (by first | (with_reducible assumption) | assumption); first | exact h_ | (have e_ := (Kd.R_reads' HO_642000.out).1; omega) | simpa using h_) (seg := [.bool true]) (j := 2) hcl94 hcc94 (show 3 ≤ 3 from by decide) (x' := (⟨(⟨(rd_T37 x642000_6 x17_6).f0.f0, (rd_T37 x642000_6 x17_6).f0.f1⟩ : S23), true⟩ : S37)) (k37_mkM _ _ _ (⟨(⟨(rd_T37 x642000_6 x17_6).f0.f0, (rd_T37 x642000_6 x17_6).f0.f1⟩ : S23), true⟩ : S37) ) (fun _ hk => hk)
                            have hx94_2 := hcc94 2 _ rfl
                            (try simp only [show (k37).sz = 3 from rfl, Nat.mul_one, Nat.add_zero] at hx94_2)
                            have hf94_2 := hfr94 2
                            (try simp only [show (k37).sz = 3 from rfl, Nat.mul_one, Nat.add_zero] at hf94_2)
                            clear hcl94 hcc94 hfr94 hM94
                            go_wp2_with (first | ((with_reducible refine gate_store (t := 4) (p := 126) rfl ?_); refine store_event (t := 4) (p := 126) (v := ?vo_w95) (w1 := (wr.setCell ⟨go87, (x17_6 : Int).toNat * 3 + 2, none⟩ (.bool true))) ?hg ?ho ?hn ?hr ?_; (case ho => rfl); (case hg => rfl); (case hn => rfl); (case hr => first | (go_simp; done) | (go_simp; rfl)); intro w95 hw; have hg : wr.grownBy w95 (some go87) := (by rw [hw]; exact HP94.2); have hp_ : Kd.R k37 37 w95 w.heap.size (fun _ => True) (.slice (some ⟨go87, 0, none⟩) x642000_6.length co93) y650 := (by rw [hw, Ny650.out]; exact HP94.1); clear HP94; have n0_ := Aside0.mk (Kd.R_over' (v := (.slice (some ⟨go87, 0, none⟩) x642000_6.length co93)) (by (with_reducible repeat (first | apply Kd.R_alloc | apply Kd.R_drewN | apply Kd.R_drew)); exact HO_5.out) (Kd.R_typed HO_642000.out) (by decide) hg); have n1_ := Aside0.mk (hp_); have n2_ := Aside0.mk (blk_grown (g := gb625) (o := .cells #[.slice none 0 0] 31 (0, 0)) (by (with_reducible repeat (first | refine blk_drewN ?_ _ | refine blk_drew ?_ | refine blk_alloc ?_ _)); exact BK625.out) hg (Kd.R_ne HO_642000.out BK625.out (by decide))); have n3_ := Aside0.mk (blk_grown (g := gb632) (o := .cells #[.string t629, .int .i64 t630] 23 (0, 0)) (by (with_reducible repeat (first | refine blk_drewN ?_ _ | refine blk_drew ?_ | refine blk_alloc ?_ _)); exact BK632.out) hg (Kd.R_ne HO_642000.out BK632.out (by decide))); have n4_ := Aside0.mk (blk_grown (g := gb637) (o := .cells #[.string t634, .int .i64 t635] 23 (0, 0)) (by (with_reducible repeat (first | refine blk_drewN ?_ _ | refine blk_drew ?_ | refine blk_alloc ?_ _)); exact BK637.out) hg (Kd.R_ne HO_642000.out BK637.out (by decide))); have n5_ := Aside0.mk (blk_grown (g := gb641) (o := .cells #[.slice (some ⟨go87, 0, none⟩) x642000_6.length co93] 31 (0, 0)) (by (with_reducible repeat (first | refine blk_drewN ?_ _ | refine blk_drew ?_ | refine blk_alloc ?_ _)); exact BK641.out) hg (Kd.R_ne HO_642000.out BK641.out (by decide))); have n6_ := Aside0.mk (blk_grown (g := gb646) (o := .cells #[.string t643, .int .i64 t644] 23 (0, 0)) (by (with_reducible repeat (first | refine blk_drewN ?_ _ | refine blk_drew ?_ | refine blk_alloc ?_ _)); exact BK646.out) hg (Kd.R_ne HO_642000.out BK646.out (by decide))); have n7_ := Aside0.mk ((by rw [hw]; exact below_set (HB.out) GB87.out : Below w.heap.size w w95)); clear HO_5; clear HO_642000; clear BK625; clear BK632; clear BK637; clear BK641; clear BK646; clear HB; have HO_5 := n0_; have HO_642000 := n1_; have BK625 := n2_; have BK632 := n3_; have BK637 := n4_; have BK641 := n5_; have BK646 := n6_; have HB := n7_; clear n0_ n1_ n2_ n3_ n4_ n5_ n6_ n7_; clear hg hw hp_))
                            go_roundg k6
                            case measure => have := HJ1.out; have := HJ18.out; have := HK3.out; have := HJ55.out; have := HJ61.out; have := HK6.out; omega
                            case rel => exact ⟨(wrap64 (x17_6 + 1)), (y650), (.slice (some ⟨go87, 0, none⟩) x642000_6.length co93), (by first | rfl | (simp; done) | (simp [*]; done) | (simp; exact (fun l : List UInt8 => (by cases l <;> rfl : l.isEmpty = !(l != []))) _)), H', ⟨by have := HJ1.out; have := HJ18.out; have := HK3.out; have := HJ55.out; have := HJ61.out; have := HK6.out; omega⟩, ⟨by (with_reducible repeat (first | apply Kd.R_alloc | apply Kd.R_drewN | apply Kd.R_drew)); exact HO_5.out⟩, ⟨by (with_reducible repeat (first | apply Kd.R_alloc | apply Kd.R_drewN | apply Kd.R_drew)); exact HO_642000.out⟩, ⟨by (with_reducible repeat (first | refine blk_drewN ?_ _ | refine blk_drew ?_ | refine blk_alloc ?_ _)); exact BK625.out⟩, ⟨by (with_reducible repeat (first | refine blk_drewN ?_ _ | refine blk_drew ?_ | refine blk_alloc ?_ _)); exact BK632.out⟩, ⟨by (with_reducible repeat (first | refine blk_drewN ?_ _ | refine blk_drew ?_ | refine blk_alloc ?_ _)); exact BK637.out⟩, ⟨by (with_reducible repeat (first | refine blk_drewN ?_ _ | refine blk_drew ?_ | refine blk_alloc ?_ _)); exact BK641.out⟩, ⟨by (with_reducible repeat (first | refine blk_drewN ?_ _ | refine blk_drew ?_ | refine blk_alloc ?_ _)); exact BK646.out⟩, ⟨by repeat (first | (with_reducible first | exact HB.out | apply below_alloc | apply pw_below_drewN | apply below_drew1 | refine below_set ?_ GE625.out | refine below_set ?_ GE632.out | refine below_set ?_ GE637.out | refine below_set ?_ GE641.out | refine below_set ?_ GE646.out) | exact HB.out)⟩⟩
                           ·rw [if_neg c86] at H
                            exact absurd H (by simp)
                          ·rw [if_neg c85] at H
                           have c85b0 : decide (x17_6 < (x642000_6.length : Int)) = false := decide_eq_false c85
                           clear c85
                           have H' := Aside0.mk H
                           clear H
                           have hnb96 := NB641_625.out
                           have hnc96 := NB625_641.out
                           have hnb97 := NB641_632.out
                           have hnc97 := NB632_641.out
                           have hnb98 := NB641_637.out
                           have hnc98 := NB637_641.out
                           have hnb99 := NB641_646.out
                           have hnc99 := NB646_641.out
                           have hcz100_0 : wr.cell? ⟨gb641, 0, none⟩ = some (u642000) := (blk_cell BK641.out 0).trans rfl
                           have hfz100_0 := blk_frozen BK641.out 0
                           obtain ⟨Ao101, co101, eo101⟩ := Kd.R_slice HO_642000.out
                           subst eo101
                           go_wp2
                           go_roundg k6
                           case measure => have := HJ1.out; have := HJ18.out; have := HK3.out; have := HJ55.out; have := HJ61.out; have := HK6.out; omega
                           case rel => exact ⟨((wrap64 (x11_3 + 1))), (wrap64 (x12_3 + 1)), (x642000_6), (.slice Ao101 x642000_6.length co101), (by first | rfl | (simp; done) | (simp [*]; done) | (simp; exact (fun l : List UInt8 => (by cases l <;> rfl : l.isEmpty = !(l != []))) _)), (by first | rfl | (simp; done) | (simp [*]; done) | (simp; exact (fun l : List UInt8 => (by cases l <;> rfl : l.isEmpty = !(l != []))) _)), H', ⟨by have := HJ1.out; have := HJ18.out; have := HK3.out; have := HJ55.out; have := HJ61.out; have := HK6.out; omega⟩, ⟨by (with_reducible repeat (first | apply Kd.R_alloc | apply Kd.R_drewN | apply Kd.R_drew)); exact HO_5.out⟩, ⟨by (with_reducible repeat (first | apply Kd.R_alloc | apply Kd.R_drewN | apply Kd.R_drew)); exact HO_642000.out⟩, ⟨by (with_reducible repeat (first | refine blk_drewN ?_ _ | refine blk_drew ?_ | refine blk_alloc ?_ _)); exact BK625.out⟩, ⟨by (with_reducible repeat (first | refine blk_drewN ?_ _ | refine blk_drew ?_ | refine blk_alloc ?_ _)); exact BK632.out⟩, ⟨by (with_reducible repeat (first | refine blk_drewN ?_ _ | refine blk_drew ?_ | refine blk_alloc ?_ _)); exact BK637.out⟩, ⟨by (with_reducible repeat (first | refine blk_drewN ?_ _ | refine blk_drew ?_ | refine blk_alloc ?_ _)); exact BK641.out⟩, ⟨by repeat (first | (with_reducible first | exact HB.out | apply below_alloc | apply pw_below_drewN | apply below_drew1 | refine below_set ?_ GE625.out | refine below_set ?_ GE632.out | refine below_set ?_ GE637.out | refine below_set ?_ GE641.out | refine below_set ?_ GE646.out) | exact HB.out)⟩⟩
                       ·replace c70 := Bool.eq_false_iff.mpr c70
                        subst c70
                        have H1 : (squelchref05_Parse.l1 kj61 t626 x11_3 (wrap64 (x12_3 + 1)) y647) = some (r1, r2) := by rw [if_neg (show ¬ (false = true) by decide)] at H; exact H
                        clear H
                        have H := H1
                        clear H1
                        have H' := Aside0.mk H
                        clear H
                        go_wp2_with (first | ((with_reducible refine gate_callee (f := 44) rfl ?_); refine goesL_ (some 99) rfl rfl Tryd.func44 (by kernel_rfl) rfl #[.string x13_61] rfl (by (try simp only [List.map_toArray, List.map_cons, List.map_nil]); first | done | rfl | (simp only [List.length_drop, List.length_take]; rfl)) ?_; (with_reducible refine (squelchref04_Parse.calls kj61 x13_61 t643 t644 true _ A67.out).mono ?_); rintro e w102 ⟨rfl, hb⟩; refine ⟨_, rfl, ?_⟩; have n0_ := Aside0.mk (Kd.R_below (by (with_reducible repeat (first | apply Kd.R_alloc | apply Kd.R_drewN | apply Kd.R_drew)); exact HO_5.out) hb); have n1_ := Aside0.mk (Kd.R_below (by (with_reducible repeat (first | apply Kd.R_alloc | apply Kd.R_drewN | apply Kd.R_drew)); exact HO_642000.out) hb); have n2_ := Aside0.mk (blk_below (g := gb625) (o := .cells #[.slice none 0 0] 31 (0, 0)) (by (with_reducible repeat (first | refine blk_drewN ?_ _ | refine blk_drew ?_ | refine blk_alloc ?_ _)); exact BK625.out) hb); have n3_ := Aside0.mk (blk_below (g := gb632) (o := .cells #[.string t629, .int .i64 t630] 23 (0, 0)) (by (with_reducible repeat (first | refine blk_drewN ?_ _ | refine blk_drew ?_ | refine blk_alloc ?_ _)); exact BK632.out) hb); have n4_ := Aside0.mk (blk_below (g := gb637) (o := .cells #[.string t634, .int .i64 t635] 23 (0, 0)) (by (with_reducible repeat (first | refine blk_drewN ?_ _ | refine blk_drew ?_ | refine blk_alloc ?_ _)); exact BK637.out) hb); have n5_ := Aside0.mk (blk_below (g := gb641) (o := .cells #[u642000] 31 (0, 0)) (by (with_reducible repeat (first | refine blk_drewN ?_ _ | refine blk_drew ?_ | refine blk_alloc ?_ _)); exact BK641.out) hb); have n6_ := Aside0.mk (below_step (by repeat (first | (with_reducible first | exact HB.out | apply below_alloc | apply pw_below_drewN | apply below_drew1 | refine below_set ?_ GE625.out | refine below_set ?_ GE632.out | refine below_set ?_ GE637.out | refine below_set ?_ GE641.out) | exact HB.out)) hb); clear HO_5; clear HO_642000; clear BK625; clear BK632; clear BK637; clear BK641; clear HB; have HO_5 := n0_; have HO_642000 := n1_; have BK625 := n2_; have BK632 := n3_; have BK637 := n4_; have BK641 := n5_; have HB := n6_; clear n0_ n1_ n2_ n3_ n4_ n5_ n6_; (try clear hb); (try clear hb2); (try clear hk); (try clear hi)) | ((with_reducible refine gate_dst (N := 15) rfl ?_); (try (refine gate_guard (by rfl) ?_; dsimp only)); refine box_event ?hg (N := 15) ?hd (cs := #[.string (⟨#[]⟩ : ByteArray), .int .i64 0]) (t := 23) ?hr ?_; (case hd => rfl); (case hg => rfl); (case hr => first | (go_simp; done) | (go_simp; rfl)); intro gb646 hg w103 hbox hb; have n0_ := Aside0.mk (Kd.R_below (by (with_reducible repeat (first | apply Kd.R_alloc | apply Kd.R_drewN | apply Kd.R_drew)); exact HO_5.out) hb); have n1_ := Aside0.mk (Kd.R_below (by (with_reducible repeat (first | apply Kd.R_alloc | apply Kd.R_drewN | apply Kd.R_drew)); exact HO_642000.out) hb); have n2_ := Aside0.mk (blk_below (g := gb625) (o := .cells #[.slice none 0 0] 31 (0, 0)) (by (with_reducible repeat (first | refine blk_drewN ?_ _ | refine blk_drew ?_ | refine blk_alloc ?_ _)); exact BK625.out) hb); have n3_ := Aside0.mk (blk_below (g := gb632) (o := .cells #[.string t629, .int .i64 t630] 23 (0, 0)) (by (with_reducible repeat (first | refine blk_drewN ?_ _ | refine blk_drew ?_ | refine blk_alloc ?_ _)); exact BK632.out) hb); have n4_ := Aside0.mk (blk_below (g := gb637) (o := .cells #[.string t634, .int .i64 t635] 23 (0, 0)) (by (with_reducible repeat (first | refine blk_drewN ?_ _ | refine blk_drew ?_ | refine blk_alloc ?_ _)); exact BK637.out) hb); have n5_ := Aside0.mk (blk_below (g := gb641) (o := .cells #[u642000] 31 (0, 0)) (by (with_reducible repeat (first | refine blk_drewN ?_ _ | refine blk_drew ?_ | refine blk_alloc ?_ _)); exact BK641.out) hb); have n6_ := Aside0.mk (below_step (by repeat (first | (with_reducible first | exact HB.out | apply below_alloc | apply pw_below_drewN | apply below_drew1 | refine below_set ?_ GE625.out | refine below_set ?_ GE632.out | refine below_set ?_ GE637.out | refine below_set ?_ GE641.out) | exact HB.out)) hb); have n7_ := Aside0.mk (hbox); have n8_ := Aside0.mk ((by rw [hg]; exact (below_size (by repeat (first | (with_reducible first | exact HB.out | apply below_alloc | apply pw_below_drewN | apply below_drew1 | refine below_set ?_ GE625.out | refine below_set ?_ GE632.out | refine below_set ?_ GE637.out | refine below_set ?_ GE641.out) | exact HB.out))) : w.heap.size ≤ gb646)); have n9_ := Aside0.mk ((by rw [hg]; exact (below_size (by repeat (first | (with_reducible first | exact HB.out | apply below_alloc | apply pw_below_drewN | apply below_drew1 | refine below_set ?_ GE625.out | refine below_set ?_ GE632.out | refine below_set ?_ GE637.out | refine below_set ?_ GE641.out) | exact HB.out))) : w.heap.size ≤ gb646)); have n10_ := Aside0.mk ((by rw [hg]; exact Nat.ne_of_lt (blk_lt (g := gb625) (o := .cells #[.slice none 0 0] 31 (0, 0)) (by (with_reducible repeat (first | refine blk_drewN ?_ _ | refine blk_drew ?_ | refine blk_alloc ?_ _)); exact BK625.out)) : gb625 ≠ gb646)); have n11_ := Aside0.mk ((by rw [hg]; exact Nat.ne_of_gt (blk_lt (g := gb625) (o := .cells #[.slice none 0 0] 31 (0, 0)) (by (with_reducible repeat (first | refine blk_drewN ?_ _ | refine blk_drew ?_ | refine blk_alloc ?_ _)); exact BK625.out)) : gb646 ≠ gb625)); have n12_ := Aside0.mk ((by rw [hg]; exact Nat.ne_of_lt (blk_lt (g := gb632) (o := .cells #[.string t629, .int .i64 t630] 23 (0, 0)) (by (with_reducible repeat (first | refine blk_drewN ?_ _ | refine blk_drew ?_ | refine blk_alloc ?_ _)); exact BK632.out)) : gb632 ≠ gb646)); have n13_ := Aside0.mk ((by rw [hg]; exact Nat.ne_of_gt (blk_lt (g := gb632) (o := .cells #[.string t629, .int .i64 t630] 23 (0, 0)) (by (with_reducible repeat (first | refine blk_drewN ?_ _ | refine blk_drew ?_ | refine blk_alloc ?_ _)); exact BK632.out)) : gb646 ≠ gb632)); have n14_ := Aside0.mk ((by rw [hg]; exact Nat.ne_of_lt (blk_lt (g := gb637) (o := .cells #[.string t634, .int .i64 t635] 23 (0, 0)) (by (with_reducible repeat (first | refine blk_drewN ?_ _ | refine blk_drew ?_ | refine blk_alloc ?_ _)); exact BK637.out)) : gb637 ≠ gb646)); have n15_ := Aside0.mk ((by rw [hg]; exact Nat.ne_of_gt (blk_lt (g := gb637) (o := .cells #[.string t634, .int .i64 t635] 23 (0, 0)) (by (with_reducible repeat (first | refine blk_drewN ?_ _ | refine blk_drew ?_ | refine blk_alloc ?_ _)); exact BK637.out)) : gb646 ≠ gb637)); have n16_ := Aside0.mk ((by rw [hg]; exact Nat.ne_of_lt (blk_lt (g := gb641) (o := .cells #[u642000] 31 (0, 0)) (by (with_reducible repeat (first | refine blk_drewN ?_ _ | refine blk_drew ?_ | refine blk_alloc ?_ _)); exact BK641.out)) : gb641 ≠ gb646)); have n17_ := Aside0.mk ((by rw [hg]; exact Nat.ne_of_gt (blk_lt (g := gb641) (o := .cells #[u642000] 31 (0, 0)) (by (with_reducible repeat (first | refine blk_drewN ?_ _ | refine blk_drew ?_ | refine blk_alloc ?_ _)); exact BK641.out)) : gb646 ≠ gb641)); clear HO_5; clear HO_642000; clear BK625; clear BK632; clear BK637; clear BK641; clear HB; have HO_5 := n0_; have HO_642000 := n1_; have BK625 := n2_; have BK632 := n3_; have BK637 := n4_; have BK641 := n5_; have HB := n6_; have BK646 := n7_; have GW646 := n8_; have GE646 := n9_; have NB625_646 := n10_; have NB646_625 := n11_; have NB632_646 := n12_; have NB646_632 := n13_; have NB637_646 := n14_; have NB646_637 := n15_; have NB641_646 := n16_; have NB646_641 := n17_; clear n0_ n1_ n2_ n3_ n4_ n5_ n6_ n7_ n8_ n9_ n10_ n11_ n12_ n13_ n14_ n15_ n16_ n17_; clear hb hbox hg; have hnb104 := NB646_625.out; have hnc104 := NB625_646.out; have hnb105 := NB646_632.out; have hnc105 := NB632_646.out; have hnb106 := NB646_637.out; have hnc106 := NB637_646.out; have hnb107 := NB646_641.out; have hnc107 := NB641_646.out; have hcz108_0 : w103.cell? ⟨gb646, 0, none⟩ = some (.string (⟨#[]⟩ : ByteArray)) := (blk_cell BK646.out 0).trans rfl; have hcz108_1 : w103.cell? ⟨gb646, 1, none⟩ = some (.int .i64 0) := (blk_cell BK646.out 1).trans rfl; have hfz108_0 := blk_frozen BK646.out 0; have hfz108_1 := blk_frozen BK646.out 1; have hnb109 := NB641_625.out; have hnc109 := NB625_641.out; have hnb110 := NB641_632.out; have hnc110 := NB632_641.out; have hnb111 := NB641_637.out; have hnc111 := NB637_641.out; have hcz112_0 : w103.cell? ⟨gb641, 0, none⟩ = some (u642000) := (blk_cell BK641.out 0).trans rfl; have hfz112_0 := blk_frozen BK641.out 0) | ((with_reducible refine gate_builtin (b := .append) (xs := #[.tmp 106, .tmp 109]) rfl ?_); (try (refine gate_guard (by rfl) ?_; dsimp only)); at_builtin; refine Kd.R_append k37 (w0 := w) w.heap.size rfl (.tmp 106) (.tmp 109) 29 37 (.agg #[(.string ⟨#[]⟩), (.int .i64 0), (.bool false)]) 32 rfl Tryd.underlying29 info37 rfl (by decide) (by omega) u642000 x642000_3 (⟨(⟨t643, t644⟩ : S23), false⟩ : S37) [.string t643, .int .i64 t644, .bool false] (fun _ => True) (fun _ => False) rfl (by first | (go_simp; done) | (go_simp; rfl)) ?aP (fun _ hk => hk.elim) ?aF ?aO ?aB ?aS ?aL ?_; (case aP => exact k37_mkM _ _ _ (⟨(⟨t643, t644⟩ : S23), false⟩ : S37)); (case aB => exact (by repeat (first | (with_reducible first | exact HB.out | apply below_alloc | apply pw_below_drewN | apply below_drew1 | refine below_set ?_ GE625.out | refine below_set ?_ GE632.out | refine below_set ?_ GE637.out | refine below_set ?_ GE641.out | refine below_set ?_ GE646.out) | exact HB.out))); (case aF => exact (fun _ _ => trivial)); (case aO => exact (by (with_reducible repeat (first | apply Kd.R_alloc | apply Kd.R_drewN | apply Kd.R_drew)); exact Kd.R_mono (Kd.R_far (p := ⟨gb646, 1, none⟩) (Kd.R_far (p := ⟨gb646, 0, none⟩) (Kd.R_types HO_642000.out BK646.out (by decide)) (fun _ hk => hk.2) (.string t643)) (fun _ hk => hk.2) (.int .i64 t644)) (fun _ hk => trivial))); (case aS => exact (below_size (by repeat (first | (with_reducible first | exact HB.out | apply below_alloc | apply pw_below_drewN | apply below_drew1 | refine below_set ?_ GE625.out | refine below_set ?_ GE632.out | refine below_set ?_ GE637.out | refine below_set ?_ GE641.out | refine below_set ?_ GE646.out) | exact HB.out)))); (case aL => have := LMc69.out; omega); intro v648 w113 ho hb hg hat; rw [← Ny647.out] at ho; have n0_ := Aside0.mk (Kd.R_over' (by (with_reducible repeat (first | apply Kd.R_alloc | apply Kd.R_drewN | apply Kd.R_drew)); exact (Kd.R_mono (Kd.R_far (p := ⟨gb646, 1, none⟩) (Kd.R_far (p := ⟨gb646, 0, none⟩) (Kd.R_types HO_5.out BK646.out (by decide)) (fun _ hk => hk.2) (.string t643)) (fun _ hk => hk.2) (.int .i64 t644)) (fun _ h_ => h_.1))) (Kd.R_typed (by (with_reducible repeat (first | apply Kd.R_alloc | apply Kd.R_drewN | apply Kd.R_drew)); exact (Kd.R_mono (Kd.R_far (p := ⟨gb646, 1, none⟩) (Kd.R_far (p := ⟨gb646, 0, none⟩) (Kd.R_types HO_642000.out BK646.out (by decide)) (fun _ hk => hk.2) (.string t643)) (fun _ hk => hk.2) (.int .i64 t644)) (fun _ h_ => h_.1)))) (by decide) hg); have n1_ := Aside0.mk (blk_grown (g := gb625) (o := .cells #[.slice none 0 0] 31 (0, 0)) (by (with_reducible repeat (first | refine blk_drewN ?_ _ | refine blk_drew ?_ | refine blk_alloc ?_ _)); refine blk_far ?_ NB625_646.out _; (with_reducible repeat (first | refine blk_drewN ?_ _ | refine blk_drew ?_ | refine blk_alloc ?_ _)); refine blk_far ?_ NB625_646.out _; (with_reducible repeat (first | refine blk_drewN ?_ _ | refine blk_drew ?_ | refine blk_alloc ?_ _)); exact BK625.out) hg (Kd.R_ne HO_642000.out BK625.out (by decide))); have n2_ := Aside0.mk (blk_grown (g := gb632) (o := .cells #[.string t629, .int .i64 t630] 23 (0, 0)) (by (with_reducible repeat (first | refine blk_drewN ?_ _ | refine blk_drew ?_ | refine blk_alloc ?_ _)); refine blk_far ?_ NB632_646.out _; (with_reducible repeat (first | refine blk_drewN ?_ _ | refine blk_drew ?_ | refine blk_alloc ?_ _)); refine blk_far ?_ NB632_646.out _; (with_reducible repeat (first | refine blk_drewN ?_ _ | refine blk_drew ?_ | refine blk_alloc ?_ _)); exact BK632.out) hg (Kd.R_ne HO_642000.out BK632.out (by decide))); have n3_ := Aside0.mk (blk_grown (g := gb637) (o := .cells #[.string t634, .int .i64 t635] 23 (0, 0)) (by (with_reducible repeat (first | refine blk_drewN ?_ _ | refine blk_drew ?_ | refine blk_alloc ?_ _)); refine blk_far ?_ NB637_646.out _; (with_reducible repeat (first | refine blk_drewN ?_ _ | refine blk_drew ?_ | refine blk_alloc ?_ _)); refine blk_far ?_ NB637_646.out _; (with_reducible repeat (first | refine blk_drewN ?_ _ | refine blk_drew ?_ | refine blk_alloc ?_ _)); exact BK637.out) hg (Kd.R_ne HO_642000.out BK637.out (by decide))); have n4_ := Aside0.mk (blk_grown (g := gb641) (o := .cells #[u642000] 31 (0, 0)) (by (with_reducible repeat (first | refine blk_drewN ?_ _ | refine blk_drew ?_ | refine blk_alloc ?_ _)); refine blk_far ?_ NB641_646.out _; (with_reducible repeat (first | refine blk_drewN ?_ _ | refine blk_drew ?_ | refine blk_alloc ?_ _)); refine blk_far ?_ NB641_646.out _; (with_reducible repeat (first | refine blk_drewN ?_ _ | refine blk_drew ?_ | refine blk_alloc ?_ _)); exact BK641.out) hg (Kd.R_ne HO_642000.out BK641.out (by decide))); have n5_ := Aside0.mk (blk_grown (g := gb646) (o := .cells #[.string t643, .int .i64 t644] 23 (0, 0)) (by (with_reducible repeat (first | refine blk_drewN ?_ _ | refine blk_drew ?_ | refine blk_alloc ?_ _)); refine blk_put (cs := #[.string t643, .int .i64 0]) ?_ 1 _ rfl; (with_reducible repeat (first | refine blk_drewN ?_ _ | refine blk_drew ?_ | refine blk_alloc ?_ _)); refine blk_put (cs := #[.string (⟨#[]⟩ : ByteArray), .int .i64 0]) ?_ 0 _ rfl; (with_reducible repeat (first | refine blk_drewN ?_ _ | refine blk_drew ?_ | refine blk_alloc ?_ _)); exact BK646.out) hg (Kd.R_ne HO_642000.out BK646.out (by decide))); have n6_ := Aside0.mk (hb); have n7_ := Aside0.mk (ho); clear HO_5; clear BK625; clear BK632; clear BK637; clear BK641; clear BK646; clear HB; clear HO_642000; have HO_5 := n0_; have BK625 := n1_; have BK632 := n2_; have BK637 := n3_; have BK641 := n4_; have BK646 := n5_; have HB := n6_; have HO649 := n7_; clear n0_ n1_ n2_ n3_ n4_ n5_ n6_ n7_; clear ho hb hg hat; obtain ⟨Ao114, co114, eo114⟩ := Kd.R_slice HO649.out; subst eo114; have hcz115_0 : w113.cell? ⟨gb641, 0, none⟩ = some (u642000) := (blk_cell BK641.out 0).trans rfl; have hfz115_0 := blk_frozen BK641.out 0))
                        go_roundg kj61
                        case measure => have := HJ1.out; have := HJ18.out; have := HK3.out; have := HJ55.out; have := HJ61.out; omega
                        case rel => exact ⟨(x11_3), (wrap64 (x12_3 + 1)), (y647), (.slice Ao114 y647.length co114), (by first | rfl | (simp; done) | (simp [*]; done) | (simp; exact (fun l : List UInt8 => (by cases l <;> rfl : l.isEmpty = !(l != []))) _)), (by first | rfl | (simp; done) | (simp [*]; done) | (simp; exact (fun l : List UInt8 => (by cases l <;> rfl : l.isEmpty = !(l != []))) _)), H', ⟨by have := HJ1.out; have := HJ18.out; have := HK3.out; have := HJ55.out; have := HJ61.out; omega⟩, ⟨by (with_reducible repeat (first | apply Kd.R_alloc | apply Kd.R_drewN | apply Kd.R_drew)); exact Kd.R_mono (Kd.R_far (p := ⟨gb641, 0, none⟩) (Kd.R_types HO_5.out BK641.out (by decide)) (fun _ hk => hk.2) (.slice Ao114 y647.length co114)) (fun _ hk => trivial)⟩, ⟨by (with_reducible repeat (first | apply Kd.R_alloc | apply Kd.R_drewN | apply Kd.R_drew)); exact Kd.R_mono (Kd.R_far (p := ⟨gb641, 0, none⟩) (Kd.R_types HO649.out BK641.out (by decide)) (fun _ hk => hk.2) (.slice Ao114 y647.length co114)) (fun _ hk => trivial)⟩, ⟨by (with_reducible repeat (first | refine blk_drewN ?_ _ | refine blk_drew ?_ | refine blk_alloc ?_ _)); refine blk_far ?_ NB625_641.out _; (with_reducible repeat (first | refine blk_drewN ?_ _ | refine blk_drew ?_ | refine blk_alloc ?_ _)); exact BK625.out⟩, ⟨by (with_reducible repeat (first | refine blk_drewN ?_ _ | refine blk_drew ?_ | refine blk_alloc ?_ _)); refine blk_far ?_ NB632_641.out _; (with_reducible repeat (first | refine blk_drewN ?_ _ | refine blk_drew ?_ | refine blk_alloc ?_ _)); exact BK632.out⟩, ⟨by (with_reducible repeat (first | refine blk_drewN ?_ _ | refine blk_drew ?_ | refine blk_alloc ?_ _)); refine blk_far ?_ NB637_641.out _; (with_reducible repeat (first | refine blk_drewN ?_ _ | refine blk_drew ?_ | refine blk_alloc ?_ _)); exact BK637.out⟩, ⟨by (with_reducible repeat (first | refine blk_drewN ?_ _ | refine blk_drew ?_ | refine blk_alloc ?_ _)); refine blk_put (cs := #[u642000]) ?_ 0 _ rfl; (with_reducible repeat (first | refine blk_drewN ?_ _ | refine blk_drew ?_ | refine blk_alloc ?_ _)); exact BK641.out⟩, ⟨by repeat (first | (with_reducible first | exact HB.out | apply below_alloc | apply pw_below_drewN | apply below_drew1 | refine below_set ?_ GE625.out | refine below_set ?_ GE632.out | refine below_set ?_ GE637.out | refine below_set ?_ GE641.out | refine below_set ?_ GE646.out) | exact HB.out)⟩⟩
                      ·rw [if_neg c69] at H
                       exact absurd H (by simp)
                     ·replace c68 := Bool.eq_false_iff.mpr c68
                      subst c68
                      have H1 : (some (([] : List (S37)), 12)) = some (r1, r2) := by rw [if_neg (show ¬ (false = true) by decide)] at H; exact H
                      clear H
                      have H := H1
                      clear H1
                      simp only [Option.some.injEq, Prod.mk.injEq] at H
                      obtain ⟨rfl, rfl⟩ := H
                      go_wp2_with (first | ((with_reducible refine gate_callee (f := 44) rfl ?_); refine goesL_ (some 99) rfl rfl Tryd.func44 (by kernel_rfl) rfl #[.string x13_61] rfl (by (try simp only [List.map_toArray, List.map_cons, List.map_nil]); first | done | rfl | (simp only [List.length_drop, List.length_take]; rfl)) ?_; (with_reducible refine (squelchref04_Parse.calls kj61 x13_61 t643 t644 false _ A67.out).mono ?_); rintro e w116 ⟨rfl, hb⟩; refine ⟨_, rfl, ?_⟩; have n0_ := Aside0.mk (Kd.R_below (by (with_reducible repeat (first | apply Kd.R_alloc | apply Kd.R_drewN | apply Kd.R_drew)); exact HO_5.out) hb); have n1_ := Aside0.mk (Kd.R_below (by (with_reducible repeat (first | apply Kd.R_alloc | apply Kd.R_drewN | apply Kd.R_drew)); exact HO_642000.out) hb); have n2_ := Aside0.mk (blk_below (g := gb625) (o := .cells #[.slice none 0 0] 31 (0, 0)) (by (with_reducible repeat (first | refine blk_drewN ?_ _ | refine blk_drew ?_ | refine blk_alloc ?_ _)); exact BK625.out) hb); have n3_ := Aside0.mk (blk_below (g := gb632) (o := .cells #[.string t629, .int .i64 t630] 23 (0, 0)) (by (with_reducible repeat (first | refine blk_drewN ?_ _ | refine blk_drew ?_ | refine blk_alloc ?_ _)); exact BK632.out) hb); have n4_ := Aside0.mk (blk_below (g := gb637) (o := .cells #[.string t634, .int .i64 t635] 23 (0, 0)) (by (with_reducible repeat (first | refine blk_drewN ?_ _ | refine blk_drew ?_ | refine blk_alloc ?_ _)); exact BK637.out) hb); have n5_ := Aside0.mk (blk_below (g := gb641) (o := .cells #[u642000] 31 (0, 0)) (by (with_reducible repeat (first | refine blk_drewN ?_ _ | refine blk_drew ?_ | refine blk_alloc ?_ _)); exact BK641.out) hb); have n6_ := Aside0.mk (below_step (by repeat (first | (with_reducible first | exact HB.out | apply below_alloc | apply pw_below_drewN | apply below_drew1 | refine below_set ?_ GE625.out | refine below_set ?_ GE632.out | refine below_set ?_ GE637.out | refine below_set ?_ GE641.out) | exact HB.out)) hb); clear HO_5; clear HO_642000; clear BK625; clear BK632; clear BK637; clear BK641; clear HB; have HO_5 := n0_; have HO_642000 := n1_; have BK625 := n2_; have BK632 := n3_; have BK637 := n4_; have BK641 := n5_; have HB := n6_; clear n0_ n1_ n2_ n3_ n4_ n5_ n6_; (try clear hb); (try clear hb2); (try clear hk); (try clear hi)) | ((with_reducible refine gate_dst (N := 15) rfl ?_); (try (refine gate_guard (by rfl) ?_; dsimp only)); refine box_event ?hg (N := 15) ?hd (cs := #[.string (⟨#[]⟩ : ByteArray), .int .i64 0]) (t := 23) ?hr ?_; (case hd => rfl); (case hg => rfl); (case hr => first | (go_simp; done) | (go_simp; rfl)); intro gb646 hg w117 hbox hb; have n0_ := Aside0.mk (Kd.R_below (by (with_reducible repeat (first | apply Kd.R_alloc | apply Kd.R_drewN | apply Kd.R_drew)); exact HO_5.out) hb); have n1_ := Aside0.mk (Kd.R_below (by (with_reducible repeat (first | apply Kd.R_alloc | apply Kd.R_drewN | apply Kd.R_drew)); exact HO_642000.out) hb); have n2_ := Aside0.mk (blk_below (g := gb625) (o := .cells #[.slice none 0 0] 31 (0, 0)) (by (with_reducible repeat (first | refine blk_drewN ?_ _ | refine blk_drew ?_ | refine blk_alloc ?_ _)); exact BK625.out) hb); have n3_ := Aside0.mk (blk_below (g := gb632) (o := .cells #[.string t629, .int .i64 t630] 23 (0, 0)) (by (with_reducible repeat (first | refine blk_drewN ?_ _ | refine blk_drew ?_ | refine blk_alloc ?_ _)); exact BK632.out) hb); have n4_ := Aside0.mk (blk_below (g := gb637) (o := .cells #[.string t634, .int .i64 t635] 23 (0, 0)) (by (with_reducible repeat (first | refine blk_drewN ?_ _ | refine blk_drew ?_ | refine blk_alloc ?_ _)); exact BK637.out) hb); have n5_ := Aside0.mk (blk_below (g := gb641) (o := .cells #[u642000] 31 (0, 0)) (by (with_reducible repeat (first | refine blk_drewN ?_ _ | refine blk_drew ?_ | refine blk_alloc ?_ _)); exact BK641.out) hb); have n6_ := Aside0.mk (below_step (by repeat (first | (with_reducible first | exact HB.out | apply below_alloc | apply pw_below_drewN | apply below_drew1 | refine below_set ?_ GE625.out | refine below_set ?_ GE632.out | refine below_set ?_ GE637.out | refine below_set ?_ GE641.out) | exact HB.out)) hb); have n7_ := Aside0.mk (hbox); have n8_ := Aside0.mk ((by rw [hg]; exact (below_size (by repeat (first | (with_reducible first | exact HB.out | apply below_alloc | apply pw_below_drewN | apply below_drew1 | refine below_set ?_ GE625.out | refine below_set ?_ GE632.out | refine below_set ?_ GE637.out | refine below_set ?_ GE641.out) | exact HB.out))) : w.heap.size ≤ gb646)); have n9_ := Aside0.mk ((by rw [hg]; exact (below_size (by repeat (first | (with_reducible first | exact HB.out | apply below_alloc | apply pw_below_drewN | apply below_drew1 | refine below_set ?_ GE625.out | refine below_set ?_ GE632.out | refine below_set ?_ GE637.out | refine below_set ?_ GE641.out) | exact HB.out))) : w.heap.size ≤ gb646)); have n10_ := Aside0.mk ((by rw [hg]; exact Nat.ne_of_lt (blk_lt (g := gb625) (o := .cells #[.slice none 0 0] 31 (0, 0)) (by (with_reducible repeat (first | refine blk_drewN ?_ _ | refine blk_drew ?_ | refine blk_alloc ?_ _)); exact BK625.out)) : gb625 ≠ gb646)); have n11_ := Aside0.mk ((by rw [hg]; exact Nat.ne_of_gt (blk_lt (g := gb625) (o := .cells #[.slice none 0 0] 31 (0, 0)) (by (with_reducible repeat (first | refine blk_drewN ?_ _ | refine blk_drew ?_ | refine blk_alloc ?_ _)); exact BK625.out)) : gb646 ≠ gb625)); have n12_ := Aside0.mk ((by rw [hg]; exact Nat.ne_of_lt (blk_lt (g := gb632) (o := .cells #[.string t629, .int .i64 t630] 23 (0, 0)) (by (with_reducible repeat (first | refine blk_drewN ?_ _ | refine blk_drew ?_ | refine blk_alloc ?_ _)); exact BK632.out)) : gb632 ≠ gb646)); have n13_ := Aside0.mk ((by rw [hg]; exact Nat.ne_of_gt (blk_lt (g := gb632) (o := .cells #[.string t629, .int .i64 t630] 23 (0, 0)) (by (with_reducible repeat (first | refine blk_drewN ?_ _ | refine blk_drew ?_ | refine blk_alloc ?_ _)); exact BK632.out)) : gb646 ≠ gb632)); have n14_ := Aside0.mk ((by rw [hg]; exact Nat.ne_of_lt (blk_lt (g := gb637) (o := .cells #[.string t634, .int .i64 t635] 23 (0, 0)) (by (with_reducible repeat (first | refine blk_drewN ?_ _ | refine blk_drew ?_ | refine blk_alloc ?_ _)); exact BK637.out)) : gb637 ≠ gb646)); have n15_ := Aside0.mk ((by rw [hg]; exact Nat.ne_of_gt (blk_lt (g := gb637) (o := .cells #[.string t634, .int .i64 t635] 23 (0, 0)) (by (with_reducible repeat (first | refine blk_drewN ?_ _ | refine blk_drew ?_ | refine blk_alloc ?_ _)); exact BK637.out)) : gb646 ≠ gb637)); have n16_ := Aside0.mk ((by rw [hg]; exact Nat.ne_of_lt (blk_lt (g := gb641) (o := .cells #[u642000] 31 (0, 0)) (by (with_reducible repeat (first | refine blk_drewN ?_ _ | refine blk_drew ?_ | refine blk_alloc ?_ _)); exact BK641.out)) : gb641 ≠ gb646)); have n17_ := Aside0.mk ((by rw [hg]; exact Nat.ne_of_gt (blk_lt (g := gb641) (o := .cells #[u642000] 31 (0, 0)) (by (with_reducible repeat (first | refine blk_drewN ?_ _ | refine blk_drew ?_ | refine blk_alloc ?_ _)); exact BK641.out)) : gb646 ≠ gb641)); clear HO_5; clear HO_642000; clear BK625; clear BK632; clear BK637; clear BK641; clear HB; have HO_5 := n0_; have HO_642000 := n1_; have BK625 := n2_; have BK632 := n3_; have BK637 := n4_; have BK641 := n5_; have HB := n6_; have BK646 := n7_; have GW646 := n8_; have GE646 := n9_; have NB625_646 := n10_; have NB646_625 := n11_; have NB632_646 := n12_; have NB646_632 := n13_; have NB637_646 := n14_; have NB646_637 := n15_; have NB641_646 := n16_; have NB646_641 := n17_; clear n0_ n1_ n2_ n3_ n4_ n5_ n6_ n7_ n8_ n9_ n10_ n11_ n12_ n13_ n14_ n15_ n16_ n17_; clear hb hbox hg; have hnb118 := NB646_625.out; have hnc118 := NB625_646.out; have hnb119 := NB646_632.out; have hnc119 := NB632_646.out; have hnb120 := NB646_637.out; have hnc120 := NB637_646.out; have hnb121 := NB646_641.out; have hnc121 := NB641_646.out; have hcz122_0 : w117.cell? ⟨gb646, 0, none⟩ = some (.string (⟨#[]⟩ : ByteArray)) := (blk_cell BK646.out 0).trans rfl; have hcz122_1 : w117.cell? ⟨gb646, 1, none⟩ = some (.int .i64 0) := (blk_cell BK646.out 1).trans rfl; have hfz122_0 := blk_frozen BK646.out 0; have hfz122_1 := blk_frozen BK646.out 1; have hnb123 := NB625_632.out; have hnc123 := NB632_625.out; have hnb124 := NB625_637.out; have hnc124 := NB637_625.out; have hnb125 := NB625_641.out; have hnc125 := NB641_625.out; have hcz126_0 : w117.cell? ⟨gb625, 0, none⟩ = some (.slice none 0 0) := (blk_cell BK625.out 0).trans rfl; have hfz126_0 := blk_frozen BK625.out 0))
                      refine bodyPost_ret (results_ct rfl _ _ gb625 31 #[.slice none 0 0] (0, 0) _ rfl (by (with_reducible repeat (first | refine blk_drewN ?_ _ | refine blk_drew ?_ | refine blk_alloc ?_ _)); refine blk_put (cs := #[.slice none 0 0]) ?_ 0 _ rfl; (with_reducible repeat (first | refine blk_drewN ?_ _ | refine blk_drew ?_ | refine blk_alloc ?_ _)); refine blk_far ?_ NB625_646.out _; (with_reducible repeat (first | refine blk_drewN ?_ _ | refine blk_drew ?_ | refine blk_alloc ?_ _)); refine blk_far ?_ NB625_646.out _; (with_reducible repeat (first | refine blk_drewN ?_ _ | refine blk_drew ?_ | refine blk_alloc ?_ _)); exact BK625.out) Tryd.underlying31 rfl (by kernel_rfl)) rfl ?_
                      exact ⟨_, by first | rfl | (simp [errW_none, errW_some] <;> rfl) | (simp only [← hji10]; first | rfl | (simp [errW_none, errW_some] <;> rfl)) | (simp [*, errW_none, errW_some] <;> rfl), by first | exact Kd.R_nil _ _ _ _ _ | exact Kd.N_nil _ _ _ _ _ | exact Kd.V_nil _ _ _ _ _ | exact Kd.Q_nil _ _ _ _ _ | exact Kd.S_nil _ _ _ _ _, by repeat (first | (with_reducible first | exact HB.out | apply below_alloc | apply pw_below_drewN | apply below_drew1 | refine below_set ?_ GE625.out | refine below_set ?_ GE632.out | refine below_set ?_ GE637.out | refine below_set ?_ GE641.out | refine below_set ?_ GE646.out) | exact HB.out)⟩
               ·rw [if_neg c50] at H
                exact absurd H (by simp)
              ·rw [if_neg c49] at H
               have c49b0 : decide (x12_3 < (t626.length : Int)) = false := decide_eq_false c49
               clear c49
               by_cases c127 : x11_3 > 1
               ·rw [if_pos c127] at H
                have c127b0 : decide (1 < x11_3) = true := decide_eq_true c127
                clear c127
                simp only [Option.some.injEq, Prod.mk.injEq] at H
                obtain ⟨rfl, rfl⟩ := H
                have hnb128 := NB625_632.out
                have hnc128 := NB632_625.out
                have hnb129 := NB625_637.out
                have hnc129 := NB637_625.out
                have hnb130 := NB625_641.out
                have hnc130 := NB641_625.out
                have hcz131_0 : wr.cell? ⟨gb625, 0, none⟩ = some (.slice none 0 0) := (blk_cell BK625.out 0).trans rfl
                have hfz131_0 := blk_frozen BK625.out 0
                go_wp2
                refine bodyPost_ret (results_ct rfl _ _ gb625 31 #[.slice none 0 0] (0, 0) _ rfl (by (with_reducible repeat (first | refine blk_drewN ?_ _ | refine blk_drew ?_ | refine blk_alloc ?_ _)); refine blk_put (cs := #[.slice none 0 0]) ?_ 0 _ rfl; (with_reducible repeat (first | refine blk_drewN ?_ _ | refine blk_drew ?_ | refine blk_alloc ?_ _)); exact BK625.out) Tryd.underlying31 rfl (by kernel_rfl)) rfl ?_
                exact ⟨_, by first | rfl | (simp [errW_none, errW_some] <;> rfl) | (simp only [← hji10]; first | rfl | (simp [errW_none, errW_some] <;> rfl)) | (simp [*, errW_none, errW_some] <;> rfl), by first | exact Kd.R_nil _ _ _ _ _ | exact Kd.N_nil _ _ _ _ _ | exact Kd.V_nil _ _ _ _ _ | exact Kd.Q_nil _ _ _ _ _ | exact Kd.S_nil _ _ _ _ _, by repeat (first | (with_reducible first | exact HB.out | apply below_alloc | apply pw_below_drewN | apply below_drew1 | refine below_set ?_ GE625.out | refine below_set ?_ GE632.out | refine below_set ?_ GE637.out | refine below_set ?_ GE641.out) | exact HB.out)⟩
               ·rw [if_neg c127] at H
                have c127b0 : decide (1 < x11_3) = false := decide_eq_false c127
                clear c127
                simp only [Option.some.injEq, Prod.mk.injEq] at H
                obtain ⟨rfl, rfl⟩ := H
                have hnb132 := NB641_625.out
                have hnc132 := NB625_641.out
                have hnb133 := NB641_632.out
                have hnc133 := NB632_641.out
                have hnb134 := NB641_637.out
                have hnc134 := NB637_641.out
                have hcz135_0 : wr.cell? ⟨gb641, 0, none⟩ = some (u642000) := (blk_cell BK641.out 0).trans rfl
                have hfz135_0 := blk_frozen BK641.out 0
                obtain ⟨Ao136, co136, eo136⟩ := Kd.R_slice HO_642000.out
                subst eo136
                have hnb137 := NB625_632.out
                have hnc137 := NB632_625.out
                have hnb138 := NB625_637.out
                have hnc138 := NB637_625.out
                have hcz139_0 : wr.cell? ⟨gb625, 0, none⟩ = some (.slice none 0 0) := (blk_cell BK625.out 0).trans rfl
                have hfz139_0 := blk_frozen BK625.out 0
                go_wp2
                refine bodyPost_ret (results_ct rfl _ _ gb625 31 #[.slice Ao136 x642000_3.length co136] (0, 0) _ rfl (by (with_reducible repeat (first | refine blk_drewN ?_ _ | refine blk_drew ?_ | refine blk_alloc ?_ _)); refine blk_put (cs := #[.slice none 0 0]) ?_ 0 _ rfl; (with_reducible repeat (first | refine blk_drewN ?_ _ | refine blk_drew ?_ | refine blk_alloc ?_ _)); exact BK625.out) Tryd.underlying31 rfl (by kernel_rfl)) rfl ?_
                exact ⟨_, by first | rfl | (simp [errW_none, errW_some] <;> rfl) | (simp only [← hji10]; first | rfl | (simp [errW_none, errW_some] <;> rfl)) | (simp [*, errW_none, errW_some] <;> rfl), by (with_reducible repeat (first | apply Kd.R_alloc | apply Kd.R_drewN | apply Kd.R_drew)); exact Kd.R_mono (Kd.R_far (p := ⟨gb625, 0, none⟩) (Kd.R_types HO_642000.out BK625.out (by decide)) (fun _ hk => hk.2) (.slice Ao136 x642000_3.length co136)) (fun _ hk => trivial), by repeat (first | (with_reducible first | exact HB.out | apply below_alloc | apply pw_below_drewN | apply below_drew1 | refine below_set ?_ GE625.out | refine below_set ?_ GE632.out | refine below_set ?_ GE637.out | refine below_set ?_ GE641.out) | exact HB.out)⟩
        ·rw [if_neg c17] at H
         exact absurd H (by simp)
       ·rw [if_neg c15] at H
        exact absurd H (by simp)
      ·rw [if_neg c14] at H
       exact absurd H (by simp)
     ·rw [if_neg c12] at H
      exact absurd H (by simp)
    ·rw [if_neg c11] at H
     exact absurd H (by simp)

end Go.Proofs.YtpmieapgbdbabaaDoor.QAll
end

section
/- path.next, walked by hand: which digipeater is the first that has not sent it; -1, if all have. -/
set_option linter.unusedVariables false
set_option linter.unusedSimpArgs false
namespace Go.Proofs.YtpmieapgbdbabaaDoor.QAll
open Go.RowKit Go.Proofs.YtpmieapgbdbabaaDoorW.PrintWords Go.Proofs.YtpmieapgbdbabaaDoorW.PrintLast Go.Proofs.YtpmieapgbdbabaaDoorW.PrintMore

set_option maxHeartbeats 1000000 in
set_option maxRecDepth 100000 in
theorem not_has (d : S93) (w : World) : Calls Tryd.prog 88 #[.agg #[.string d.f0.f0, .int .i64 d.f0.f1, .bool d.f1]] w fun e w' => e = .returned (.bool (!d.f1)) ∧ Below w.heap.size w w' := by
  go_enter Tryd.func88, Tryd.ntmps88
  go_wp2
  go_ret
  exact ⟨rfl, (Below.refl _ _).alloc (Nat.le_refl _) _⟩
theorem drop_T93 (l : List S93) (k : Nat) (h : k < l.length) : l.drop k = rd_T93 l k :: l.drop (k + 1) := by
  rw [List.drop_eq_getElem_cons h]
  unfold rd_T93
  rw [Int.toNat_natCast, List.getD_eq_getElem?_getD, List.getElem?_eq_getElem h]
  rfl
/-- The first that has not sent it. -/
def nextFrom : Nat → List S93 → Int
  | _, [] => -1
  | i, d :: r => if d.f1 = true then nextFrom (i + 1) r else i
def nextI (l : List S93) : Int := nextFrom 0 l
set_option maxHeartbeats 1000000 in
set_option maxRecDepth 100000 in
theorem index_not (A : Option Addr) (c : Nat) (l : List S93) (w : World) (hr : Kd.C k93 w A l.length l) (hl : l.length ≤ 1000000) :
    Calls Tryd.prog 87 #[.slice A l.length c, .func (.func 88) #[] #[]] w fun e w' => e = .returned (.int .i64 (nextI l)) ∧ Below w.heap.size w w' := by
  have HR := Aside0.mk hr
  clear hr
  go_enter Tryd.func87, Tryd.ntmps87
  go_wp2
  go_loopw [8] (fun v8 wr => ∃ k : Nat, k ≤ l.length ∧ v8 = .int .i64 k ∧ Aside0 (nextI l = nextFrom k (l.drop k)) ∧ Aside0 (Below w.heap.size w wr)) (fun v8 _ => l.length - (intOf v8).toNat)
  case atStart => exact ⟨0, Nat.zero_le _, rfl, ⟨by rw [List.drop_zero]; rfl⟩, ⟨Below.refl _ _⟩⟩
  case round =>
    obtain ⟨k, hk, rfl, HN, HB⟩ := hrel
    by_cases hlt : k < l.length
    · obtain ⟨ad, rfl, x0, x1, x2⟩ := at_T93 HR.out k (by omega) (by omega)
      replace x0 := (HB.out.cell (World.block_lt_of_cell? w _ x0)).trans x0
      replace x1 := (HB.out.cell (World.block_lt_of_cell? w _ x1)).trans x1
      replace x2 := (HB.out.cell (World.block_lt_of_cell? w _ x2)).trans x2
      simp only [Int.toNat_natCast] at x0 x1 x2
      go_wp2_with (go_at_call 88; (with_reducible refine (not_has (rd_T93 l k) _).mono ?_); rintro e w1 ⟨rfl, hb⟩)
      · rename_i hc
        have hc' : (rd_T93 l k).f1 = false := by simpa using hc
        go_ret
        refine ⟨?_, below_then HB.out HB.out.size hb⟩
        rw [HN.out, drop_T93 l k hlt]
        unfold nextFrom
        rw [if_neg (by rw [hc']; simp)]
        rfl
      · rename_i hc
        have hc' : (rd_T93 l k).f1 = true := by simpa using hc
        refine ⟨⟨k + 1, by omega, by go_num, ⟨?_⟩, ⟨below_then HB.out HB.out.size hb⟩⟩, by simp [intOf]; omega⟩
        rw [HN.out, drop_T93 l k hlt]
        conv => lhs; unfold nextFrom
        rw [if_pos hc']
    · obtain rfl : k = l.length := by omega
      go_wp2
      go_ret
      refine ⟨?_, HB.out⟩
      rw [HN.out, List.drop_length]
      rfl
def path_next.f (a0_0 : ByteArray) (a0_1 : Int) (a0_2 : ByteArray) (a0_3 : Int) (a0_4 : Bool) (a0_5 : Bool) (l0_6 : List S93) : Option Int := if l0_6.length ≤ 1000000 then some (nextI l0_6) else none
set_option maxHeartbeats 1000000 in
set_option maxRecDepth 100000 in
theorem path_next.calls (a0_0 : ByteArray) (a0_1 : Int) (a0_2 : ByteArray) (a0_3 : Int) (a0_4 : Bool) (a0_5 : Bool) (A0_6 : Option Addr) (c0_6 : Nat) (l0_6 : List (S93)) (r : Int) (w : World) (hr0_6 : Kd.C k93 w A0_6 l0_6.length l0_6) (hc0_6 : l0_6.length ≤ c0_6) (h : path_next.f a0_0 a0_1 a0_2 a0_3 a0_4 a0_5 l0_6 = some r) :
    Calls Tryd.prog 58 #[.agg #[.string a0_0, .int .i64 a0_1, .string a0_2, .int .i64 a0_3, .bool a0_4, .bool a0_5, .slice A0_6 l0_6.length c0_6]] w fun e w' => e = .returned (.int .i64 r) ∧ Below w.heap.size w w' := by
  unfold path_next.f at h
  split at h
  case isFalse => cases h
  rename_i hl
  obtain rfl := Option.some.inj h
  have HR := Aside0.mk hr0_6
  clear hr0_6 h
  have hu26 := Tryd.underlying26
  have hu23 := Tryd.underlying23
  go_enter Tryd.func58, Tryd.ntmps58
  go_wp2_with (fail)
  refine (index_not A0_6 c0_6 l0_6 _ (Kd.C_below HR.out ((Below.refl _ _).alloc (Nat.le_refl _) _)) hl).mono ?_
  rintro e w1 ⟨rfl, hb⟩
  go_wp2
  go_ret
  exact ⟨rfl, below_then ((Below.refl _ _).alloc (Nat.le_refl _) _) (by simp) hb⟩
end Go.Proofs.YtpmieapgbdbabaaDoor.QAll
end
