-- Written by a program of this session (wip/pp)
import Derived.Test.YtpmieapgbdbabaaQXidAgreesx0
import Derived.Test.YtpmieapgbdbabaaQXidAgreesx7
namespace Go.Proofs.Ytpmieapgbdbabaa.QXidAgrees
open Go.RowKit Go.Proofs.YtpmieapgbdbabaaW.PrintWords Go.Proofs.YtpmieapgbdbabaaW.PrintLast Go.Proofs.YtpmieapgbdbabaaW.PrintMore
attribute [local go_sem] max2_int min2_int max_two min_two min_three
set_option linter.unusedVariables false
set_option linter.unusedSimpArgs false

/-! ### squelchref08_Agree: function 8 -/
mutual
def squelchref08_Agree.j0 : Nat → Bool → Bool → Int → Int → Int → Int → Bool → Bool → Int → Int → Int → Int → Bool → Bool → Int → Int → Int → Int → Option (Bool × Bool × Int × Int × Int × Int)
 | 0, _, _, _, _, _, _, _, _, _, _, _, _, _, _, _, _, _, _ => none
 | k + 1, x172000, x172001, x172002, x172003, x172004, x172005, x173000, x173001, x173002, x173003, x173004, x173005, x175000, x175001, x175002, x175003, x175004, x175005 => if x172001 = true then (squelchref08_Agree.j1 k x173000 x173001 x173002 x173003 x173004 x173005 x175000 x173001 x175002 x175003 x175004 x175005) else (squelchref08_Agree.j1 k x173000 x173001 x173002 x173003 x173004 x173005 x175000 false x175002 x175003 x175004 x175005)
def squelchref08_Agree.j1 : Nat → Bool → Bool → Int → Int → Int → Int → Bool → Bool → Int → Int → Int → Int → Option (Bool × Bool × Int × Int × Int × Int)
 | 0, _, _, _, _, _, _, _, _, _, _, _, _ => none
 | k + 1, x173000, x173001, x173002, x173003, x173004, x173005, x175000, x175001, x175002, x175003, x175004, x175005 => if x173002 < x175002 then (squelchref08_Agree.j2 k x173000 x173001 x173002 x173003 x173004 x173005 x175000 x175001 x173002 x175003 x175004 x175005) else (squelchref08_Agree.j2 k x173000 x173001 x173002 x173003 x173004 x173005 x175000 x175001 x175002 x175003 x175004 x175005)
def squelchref08_Agree.j2 : Nat → Bool → Bool → Int → Int → Int → Int → Bool → Bool → Int → Int → Int → Int → Option (Bool × Bool × Int × Int × Int × Int)
 | 0, _, _, _, _, _, _, _, _, _, _, _, _ => none
 | k + 1, x173000, x173001, x173002, x173003, x173004, x173005, x175000, x175001, x175002, x175003, x175004, x175005 => if x173003 < x175003 then (squelchref08_Agree.j3 k x173000 x173001 x173002 x173003 x173004 x173005 x175000 x175001 x175002 x173003 x175004 x175005) else (squelchref08_Agree.j3 k x173000 x173001 x173002 x173003 x173004 x173005 x175000 x175001 x175002 x175003 x175004 x175005)
def squelchref08_Agree.j3 : Nat → Bool → Bool → Int → Int → Int → Int → Bool → Bool → Int → Int → Int → Int → Option (Bool × Bool × Int × Int × Int × Int)
 | 0, _, _, _, _, _, _, _, _, _, _, _, _ => none
 | k + 1, x173000, x173001, x173002, x173003, x173004, x173005, x175000, x175001, x175002, x175003, x175004, x175005 => if x173005 < x175005 then (squelchref08_Agree.j4 k x173000 x173001 x173002 x173003 x173004 x173005 x175000 x175001 x175002 x175003 x175004 x173005) else (squelchref08_Agree.j4 k x173000 x173001 x173002 x173003 x173004 x173005 x175000 x175001 x175002 x175003 x175004 x175005)
def squelchref08_Agree.j4 : Nat → Bool → Bool → Int → Int → Int → Int → Bool → Bool → Int → Int → Int → Int → Option (Bool × Bool × Int × Int × Int × Int)
 | 0, _, _, _, _, _, _, _, _, _, _, _, _ => none
 | k + 1, x173000, x173001, x173002, x173003, x173004, x173005, x175000, x175001, x175002, x175003, x175004, x175005 => if x173004 > x175004 then ((squelchref08_Most.f k x175000 x175001).bind fun t175 => (if x175003 > t175 then (some (x175000, x175001, x175002, t175, x173004, x175005)) else (some (x175000, x175001, x175002, x175003, x173004, x175005)))) else ((squelchref08_Most.f k x175000 x175001).bind fun t176 => (if x175003 > t176 then (some (x175000, x175001, x175002, t176, x175004, x175005)) else (some (x175000, x175001, x175002, x175003, x175004, x175005))))
end
def squelchref08_Agree.f (k : Nat) (a0_0 : Bool) (a0_1 : Bool) (a0_2 : Int) (a0_3 : Int) (a0_4 : Int) (a0_5 : Int) (a1_0 : Bool) (a1_1 : Bool) (a1_2 : Int) (a1_3 : Int) (a1_4 : Int) (a1_5 : Int) : Option (Bool × Bool × Int × Int × Int × Int) := if a0_0 = true then (squelchref08_Agree.j0 k a0_0 a0_1 a0_2 a0_3 a0_4 a0_5 a1_0 a1_1 a1_2 a1_3 a1_4 a1_5 a1_0 a0_1 a0_2 a0_3 a0_4 a0_5) else (squelchref08_Agree.j0 k a0_0 a0_1 a0_2 a0_3 a0_4 a0_5 a1_0 a1_1 a1_2 a1_3 a1_4 a1_5 false a0_1 a0_2 a0_3 a0_4 a0_5)
set_option maxHeartbeats 8000000 in
set_option maxRecDepth 100000 in
theorem squelchref08_Agree.calls (k : Nat) (a0_0 : Bool) (a0_1 : Bool) (a0_2 : Int) (a0_3 : Int) (a0_4 : Int) (a0_5 : Int) (a1_0 : Bool) (a1_1 : Bool) (a1_2 : Int) (a1_3 : Int) (a1_4 : Int) (a1_5 : Int) (r1 : Bool) (r2 : Bool) (r3 : Int) (r4 : Int) (r5 : Int) (r6 : Int) (w : World) (h : squelchref08_Agree.f k a0_0 a0_1 a0_2 a0_3 a0_4 a0_5 a1_0 a1_1 a1_2 a1_3 a1_4 a1_5 = some (r1, r2, r3, r4, r5, r6)) :
  Calls Try.prog 8 #[.agg #[.bool a0_0, .bool a0_1, .int .i64 a0_2, .int .i64 a0_3, .int .i64 a0_4, .int .i64 a0_5], .agg #[.bool a1_0, .bool a1_1, .int .i64 a1_2, .int .i64 a1_3, .int .i64 a1_4, .int .i64 a1_5]] w fun e w' => e = .returned (.agg #[.bool r1, .bool r2, .int .i64 r3, .int .i64 r4, .int .i64 r5, .int .i64 r6]) ∧ Below w.heap.size w w' := by
 have hu29 := Try.underlying29
 have HB := Aside0.mk (Below.refl w.heap.size w)
 have H : (if a0_0 = true then (squelchref08_Agree.j0 k a0_0 a0_1 a0_2 a0_3 a0_4 a0_5 a1_0 a1_1 a1_2 a1_3 a1_4 a1_5 a1_0 a0_1 a0_2 a0_3 a0_4 a0_5) else (squelchref08_Agree.j0 k a0_0 a0_1 a0_2 a0_3 a0_4 a0_5 a1_0 a1_1 a1_2 a1_3 a1_4 a1_5 false a0_1 a0_2 a0_3 a0_4 a0_5)) = some (r1, r2, r3, r4, r5, r6) := h
 clear h
 have HC3 := Aside0.mk H
 clear H
 go_enter Try.func8, Try.ntmps8
 go_upto_region 2 with (first | ((with_reducible refine gate_dst (N := 2) rfl ?_); refine box_event ?hg (N := 2) ?hd (cs := #[.bool a0_0, .bool a0_1, .int .i64 a0_2, .int .i64 a0_3, .int .i64 a0_4, .int .i64 a0_5]) (t := 29) ?hr ?_; (case hd => rfl); (case hg => rfl); (case hr => first | (go_simp; done) | (go_simp; rfl)); intro gb171 hg w4 hbox hb; have n0_ := Aside0.mk (below_step (by repeat (first | (with_reducible first | exact HB.out | apply below_alloc | apply pw_below_drewN | apply below_drew1) | exact HB.out)) hb); have n1_ := Aside0.mk (hbox); have n2_ := Aside0.mk ((by rw [hg]; exact (below_size (by repeat (first | (with_reducible first | exact HB.out | apply below_alloc | apply pw_below_drewN | apply below_drew1) | exact HB.out))) : w.heap.size ≤ gb171)); have n3_ := Aside0.mk ((by rw [hg]; exact (below_size (by repeat (first | (with_reducible first | exact HB.out | apply below_alloc | apply pw_below_drewN | apply below_drew1) | exact HB.out))) : w.heap.size ≤ gb171)); clear HB; have HB := n0_; have BK171 := n1_; have GW171 := n2_; have GE171 := n3_; clear n0_ n1_ n2_ n3_; clear hb hbox hg) | ((with_reducible refine gate_dst (N := 3) rfl ?_); refine box_event ?hg (N := 3) ?hd (cs := #[.bool a1_0, .bool a1_1, .int .i64 a1_2, .int .i64 a1_3, .int .i64 a1_4, .int .i64 a1_5]) (t := 29) ?hr ?_; (case hd => rfl); (case hg => rfl); (case hr => first | (go_simp; done) | (go_simp; rfl)); intro gb172 hg w5 hbox hb; have n0_ := Aside0.mk (blk_below (g := gb171) (o := .cells #[.bool a0_0, .bool a0_1, .int .i64 a0_2, .int .i64 a0_3, .int .i64 a0_4, .int .i64 a0_5] 29 (0, 0)) (by (with_reducible repeat (first | refine blk_drewN ?_ _ | refine blk_drew ?_ | refine blk_alloc ?_ _)); exact BK171.out) hb); have n1_ := Aside0.mk (below_step (by repeat (first | (with_reducible first | exact HB.out | apply below_alloc | apply pw_below_drewN | apply below_drew1 | refine below_set ?_ GE171.out) | exact HB.out)) hb); have n2_ := Aside0.mk (hbox); have n3_ := Aside0.mk ((by rw [hg]; exact (below_size (by repeat (first | (with_reducible first | exact HB.out | apply below_alloc | apply pw_below_drewN | apply below_drew1 | refine below_set ?_ GE171.out) | exact HB.out))) : w.heap.size ≤ gb172)); have n4_ := Aside0.mk ((by rw [hg]; exact (below_size (by repeat (first | (with_reducible first | exact HB.out | apply below_alloc | apply pw_below_drewN | apply below_drew1 | refine below_set ?_ GE171.out) | exact HB.out))) : w.heap.size ≤ gb172)); have n5_ := Aside0.mk ((by rw [hg]; exact Nat.ne_of_lt (blk_lt (g := gb171) (o := .cells #[.bool a0_0, .bool a0_1, .int .i64 a0_2, .int .i64 a0_3, .int .i64 a0_4, .int .i64 a0_5] 29 (0, 0)) (by (with_reducible repeat (first | refine blk_drewN ?_ _ | refine blk_drew ?_ | refine blk_alloc ?_ _)); exact BK171.out)) : gb171 ≠ gb172)); have n6_ := Aside0.mk ((by rw [hg]; exact Nat.ne_of_gt (blk_lt (g := gb171) (o := .cells #[.bool a0_0, .bool a0_1, .int .i64 a0_2, .int .i64 a0_3, .int .i64 a0_4, .int .i64 a0_5] 29 (0, 0)) (by (with_reducible repeat (first | refine blk_drewN ?_ _ | refine blk_drew ?_ | refine blk_alloc ?_ _)); exact BK171.out)) : gb172 ≠ gb171)); clear BK171; clear HB; have BK171 := n0_; have HB := n1_; have BK172 := n2_; have GW172 := n3_; have GE172 := n4_; have NB171_172 := n5_; have NB172_171 := n6_; clear n0_ n1_ n2_ n3_ n4_ n5_ n6_; clear hb hbox hg) | ((with_reducible refine gate_dst (N := 4) rfl ?_); refine box_event ?hg (N := 4) ?hd (cs := #[.bool false, .bool false, .int .i64 0, .int .i64 0, .int .i64 0, .int .i64 0]) (t := 29) ?hr ?_; (case hd => rfl); (case hg => rfl); (case hr => first | (go_simp; done) | (go_simp; rfl)); intro gb173 hg w6 hbox hb; have n0_ := Aside0.mk (blk_below (g := gb171) (o := .cells #[.bool a0_0, .bool a0_1, .int .i64 a0_2, .int .i64 a0_3, .int .i64 a0_4, .int .i64 a0_5] 29 (0, 0)) (by (with_reducible repeat (first | refine blk_drewN ?_ _ | refine blk_drew ?_ | refine blk_alloc ?_ _)); exact BK171.out) hb); have n1_ := Aside0.mk (blk_below (g := gb172) (o := .cells #[.bool a1_0, .bool a1_1, .int .i64 a1_2, .int .i64 a1_3, .int .i64 a1_4, .int .i64 a1_5] 29 (0, 0)) (by (with_reducible repeat (first | refine blk_drewN ?_ _ | refine blk_drew ?_ | refine blk_alloc ?_ _)); exact BK172.out) hb); have n2_ := Aside0.mk (below_step (by repeat (first | (with_reducible first | exact HB.out | apply below_alloc | apply pw_below_drewN | apply below_drew1 | refine below_set ?_ GE171.out | refine below_set ?_ GE172.out) | exact HB.out)) hb); have n3_ := Aside0.mk (hbox); have n4_ := Aside0.mk ((by rw [hg]; exact (below_size (by repeat (first | (with_reducible first | exact HB.out | apply below_alloc | apply pw_below_drewN | apply below_drew1 | refine below_set ?_ GE171.out | refine below_set ?_ GE172.out) | exact HB.out))) : w.heap.size ≤ gb173)); have n5_ := Aside0.mk ((by rw [hg]; exact (below_size (by repeat (first | (with_reducible first | exact HB.out | apply below_alloc | apply pw_below_drewN | apply below_drew1 | refine below_set ?_ GE171.out | refine below_set ?_ GE172.out) | exact HB.out))) : w.heap.size ≤ gb173)); have n6_ := Aside0.mk ((by rw [hg]; exact Nat.ne_of_lt (blk_lt (g := gb171) (o := .cells #[.bool a0_0, .bool a0_1, .int .i64 a0_2, .int .i64 a0_3, .int .i64 a0_4, .int .i64 a0_5] 29 (0, 0)) (by (with_reducible repeat (first | refine blk_drewN ?_ _ | refine blk_drew ?_ | refine blk_alloc ?_ _)); exact BK171.out)) : gb171 ≠ gb173)); have n7_ := Aside0.mk ((by rw [hg]; exact Nat.ne_of_gt (blk_lt (g := gb171) (o := .cells #[.bool a0_0, .bool a0_1, .int .i64 a0_2, .int .i64 a0_3, .int .i64 a0_4, .int .i64 a0_5] 29 (0, 0)) (by (with_reducible repeat (first | refine blk_drewN ?_ _ | refine blk_drew ?_ | refine blk_alloc ?_ _)); exact BK171.out)) : gb173 ≠ gb171)); have n8_ := Aside0.mk ((by rw [hg]; exact Nat.ne_of_lt (blk_lt (g := gb172) (o := .cells #[.bool a1_0, .bool a1_1, .int .i64 a1_2, .int .i64 a1_3, .int .i64 a1_4, .int .i64 a1_5] 29 (0, 0)) (by (with_reducible repeat (first | refine blk_drewN ?_ _ | refine blk_drew ?_ | refine blk_alloc ?_ _)); exact BK172.out)) : gb172 ≠ gb173)); have n9_ := Aside0.mk ((by rw [hg]; exact Nat.ne_of_gt (blk_lt (g := gb172) (o := .cells #[.bool a1_0, .bool a1_1, .int .i64 a1_2, .int .i64 a1_3, .int .i64 a1_4, .int .i64 a1_5] 29 (0, 0)) (by (with_reducible repeat (first | refine blk_drewN ?_ _ | refine blk_drew ?_ | refine blk_alloc ?_ _)); exact BK172.out)) : gb173 ≠ gb172)); clear BK171; clear BK172; clear HB; have BK171 := n0_; have BK172 := n1_; have HB := n2_; have BK173 := n3_; have GW173 := n4_; have GE173 := n5_; have NB171_173 := n6_; have NB173_171 := n7_; have NB172_173 := n8_; have NB173_172 := n9_; clear n0_ n1_ n2_ n3_ n4_ n5_ n6_ n7_ n8_ n9_; clear hb hbox hg; have hnb7 := NB171_172.out; have hnc7 := NB172_171.out; have hnb8 := NB171_173.out; have hnc8 := NB173_171.out; have hcz9_0 : w6.cell? ⟨gb171, 0, none⟩ = some (.bool a0_0) := (blk_cell BK171.out 0).trans rfl; have hcz9_1 : w6.cell? ⟨gb171, 1, none⟩ = some (.bool a0_1) := (blk_cell BK171.out 1).trans rfl; have hcz9_2 : w6.cell? ⟨gb171, 2, none⟩ = some (.int .i64 a0_2) := (blk_cell BK171.out 2).trans rfl; have hcz9_3 : w6.cell? ⟨gb171, 3, none⟩ = some (.int .i64 a0_3) := (blk_cell BK171.out 3).trans rfl; have hcz9_4 : w6.cell? ⟨gb171, 4, none⟩ = some (.int .i64 a0_4) := (blk_cell BK171.out 4).trans rfl; have hcz9_5 : w6.cell? ⟨gb171, 5, none⟩ = some (.int .i64 a0_5) := (blk_cell BK171.out 5).trans rfl; have hfz9_0 := blk_frozen BK171.out 0; have hfz9_1 := blk_frozen BK171.out 1; have hfz9_2 := blk_frozen BK171.out 2; have hfz9_3 := blk_frozen BK171.out 3; have hfz9_4 := blk_frozen BK171.out 4; have hfz9_5 := blk_frozen BK171.out 5) | ((with_reducible refine gate_dst (N := 5) rfl ?_); refine box_event ?hg (N := 5) ?hd (cs := #[.bool false, .bool false, .int .i64 0, .int .i64 0, .int .i64 0, .int .i64 0]) (t := 29) ?hr ?_; (case hd => rfl); (case hg => rfl); (case hr => first | (go_simp; done) | (go_simp; rfl)); intro gb174 hg w10 hbox hb; have n0_ := Aside0.mk (blk_below (g := gb171) (o := .cells #[.bool a0_0, .bool a0_1, .int .i64 a0_2, .int .i64 a0_3, .int .i64 a0_4, .int .i64 a0_5] 29 (0, 0)) (by (with_reducible repeat (first | refine blk_drewN ?_ _ | refine blk_drew ?_ | refine blk_alloc ?_ _)); exact BK171.out) hb); have n1_ := Aside0.mk (blk_below (g := gb172) (o := .cells #[.bool a1_0, .bool a1_1, .int .i64 a1_2, .int .i64 a1_3, .int .i64 a1_4, .int .i64 a1_5] 29 (0, 0)) (by (with_reducible repeat (first | refine blk_drewN ?_ _ | refine blk_drew ?_ | refine blk_alloc ?_ _)); exact BK172.out) hb); have n2_ := Aside0.mk (blk_below (g := gb173) (o := .cells #[.bool false, .bool false, .int .i64 0, .int .i64 0, .int .i64 0, .int .i64 0] 29 (0, 0)) (by (with_reducible repeat (first | refine blk_drewN ?_ _ | refine blk_drew ?_ | refine blk_alloc ?_ _)); exact BK173.out) hb); have n3_ := Aside0.mk (below_step (by repeat (first | (with_reducible first | exact HB.out | apply below_alloc | apply pw_below_drewN | apply below_drew1 | refine below_set ?_ GE171.out | refine below_set ?_ GE172.out | refine below_set ?_ GE173.out) | exact HB.out)) hb); have n4_ := Aside0.mk (hbox); have n5_ := Aside0.mk ((by rw [hg]; exact (below_size (by repeat (first | (with_reducible first | exact HB.out | apply below_alloc | apply pw_below_drewN | apply below_drew1 | refine below_set ?_ GE171.out | refine below_set ?_ GE172.out | refine below_set ?_ GE173.out) | exact HB.out))) : w.heap.size ≤ gb174)); have n6_ := Aside0.mk ((by rw [hg]; exact (below_size (by repeat (first | (with_reducible first | exact HB.out | apply below_alloc | apply pw_below_drewN | apply below_drew1 | refine below_set ?_ GE171.out | refine below_set ?_ GE172.out | refine below_set ?_ GE173.out) | exact HB.out))) : w.heap.size ≤ gb174)); have n7_ := Aside0.mk ((by rw [hg]; exact Nat.ne_of_lt (blk_lt (g := gb171) (o := .cells #[.bool a0_0, .bool a0_1, .int .i64 a0_2, .int .i64 a0_3, .int .i64 a0_4, .int .i64 a0_5] 29 (0, 0)) (by (with_reducible repeat (first | refine blk_drewN ?_ _ | refine blk_drew ?_ | refine blk_alloc ?_ _)); exact BK171.out)) : gb171 ≠ gb174)); have n8_ := Aside0.mk ((by rw [hg]; exact Nat.ne_of_gt (blk_lt (g := gb171) (o := .cells #[.bool a0_0, .bool a0_1, .int .i64 a0_2, .int .i64 a0_3, .int .i64 a0_4, .int .i64 a0_5] 29 (0, 0)) (by (with_reducible repeat (first | refine blk_drewN ?_ _ | refine blk_drew ?_ | refine blk_alloc ?_ _)); exact BK171.out)) : gb174 ≠ gb171)); have n9_ := Aside0.mk ((by rw [hg]; exact Nat.ne_of_lt (blk_lt (g := gb172) (o := .cells #[.bool a1_0, .bool a1_1, .int .i64 a1_2, .int .i64 a1_3, .int .i64 a1_4, .int .i64 a1_5] 29 (0, 0)) (by (with_reducible repeat (first | refine blk_drewN ?_ _ | refine blk_drew ?_ | refine blk_alloc ?_ _)); exact BK172.out)) : gb172 ≠ gb174)); have n10_ := Aside0.mk ((by rw [hg]; exact Nat.ne_of_gt (blk_lt (g := gb172) (o := .cells #[.bool a1_0, .bool a1_1, .int .i64 a1_2, .int .i64 a1_3, .int .i64 a1_4, .int .i64 a1_5] 29 (0, 0)) (by (with_reducible repeat (first | refine blk_drewN ?_ _ | refine blk_drew ?_ | refine blk_alloc ?_ _)); exact BK172.out)) : gb174 ≠ gb172)); have n11_ := Aside0.mk ((by rw [hg]; exact Nat.ne_of_lt (blk_lt (g := gb173) (o := .cells #[.bool false, .bool false, .int .i64 0, .int .i64 0, .int .i64 0, .int .i64 0] 29 (0, 0)) (by (with_reducible repeat (first | refine blk_drewN ?_ _ | refine blk_drew ?_ | refine blk_alloc ?_ _)); exact BK173.out)) : gb173 ≠ gb174)); have n12_ := Aside0.mk ((by rw [hg]; exact Nat.ne_of_gt (blk_lt (g := gb173) (o := .cells #[.bool false, .bool false, .int .i64 0, .int .i64 0, .int .i64 0, .int .i64 0] 29 (0, 0)) (by (with_reducible repeat (first | refine blk_drewN ?_ _ | refine blk_drew ?_ | refine blk_alloc ?_ _)); exact BK173.out)) : gb174 ≠ gb173)); clear BK171; clear BK172; clear BK173; clear HB; have BK171 := n0_; have BK172 := n1_; have BK173 := n2_; have HB := n3_; have BK174 := n4_; have GW174 := n5_; have GE174 := n6_; have NB171_174 := n7_; have NB174_171 := n8_; have NB172_174 := n9_; have NB174_172 := n10_; have NB173_174 := n11_; have NB174_173 := n12_; clear n0_ n1_ n2_ n3_ n4_ n5_ n6_ n7_ n8_ n9_ n10_ n11_ n12_; clear hb hbox hg; have hnb11 := NB174_171.out; have hnc11 := NB171_174.out; have hnb12 := NB174_172.out; have hnc12 := NB172_174.out; have hnb13 := NB174_173.out; have hnc13 := NB173_174.out; have hcz14_0 : w10.cell? ⟨gb174, 0, none⟩ = some (.bool false) := (blk_cell BK174.out 0).trans rfl; have hcz14_1 : w10.cell? ⟨gb174, 1, none⟩ = some (.bool false) := (blk_cell BK174.out 1).trans rfl; have hcz14_2 : w10.cell? ⟨gb174, 2, none⟩ = some (.int .i64 0) := (blk_cell BK174.out 2).trans rfl; have hcz14_3 : w10.cell? ⟨gb174, 3, none⟩ = some (.int .i64 0) := (blk_cell BK174.out 3).trans rfl; have hcz14_4 : w10.cell? ⟨gb174, 4, none⟩ = some (.int .i64 0) := (blk_cell BK174.out 4).trans rfl; have hcz14_5 : w10.cell? ⟨gb174, 5, none⟩ = some (.int .i64 0) := (blk_cell BK174.out 5).trans rfl; have hfz14_0 := blk_frozen BK174.out 0; have hfz14_1 := blk_frozen BK174.out 1; have hfz14_2 := blk_frozen BK174.out 2; have hfz14_3 := blk_frozen BK174.out 3; have hfz14_4 := blk_frozen BK174.out 4; have hfz14_5 := blk_frozen BK174.out 5))
 (try simp only [Act.put, List.setIfInBounds_toArray, List.set_cons_zero, List.set_cons_succ])
 go_cut [] (fun wc => ∃ (kq : Nat) (x175000_2 : Bool), Aside0 (squelchref08_Agree.j0 kq a0_0 a0_1 a0_2 a0_3 a0_4 a0_5 a1_0 a1_1 a1_2 a1_3 a1_4 a1_5 x175000_2 a0_1 a0_2 a0_3 a0_4 a0_5 = some (r1, r2, r3, r4, r5, r6)) ∧ Aside0 (kq ≤ k) ∧ Aside0 (wc.heap[gb171]? = some (.cells #[.bool a0_0, .bool a0_1, .int .i64 a0_2, .int .i64 a0_3, .int .i64 a0_4, .int .i64 a0_5] 29 (0, 0))) ∧ Aside0 (wc.heap[gb172]? = some (.cells #[.bool a1_0, .bool a1_1, .int .i64 a1_2, .int .i64 a1_3, .int .i64 a1_4, .int .i64 a1_5] 29 (0, 0))) ∧ Aside0 (wc.heap[gb173]? = some (.cells #[.bool false, .bool false, .int .i64 0, .int .i64 0, .int .i64 0, .int .i64 0] 29 (0, 0))) ∧ Aside0 (wc.heap[gb174]? = some (.cells #[.bool x175000_2, .bool a0_1, .int .i64 a0_2, .int .i64 a0_3, .int .i64 a0_4, .int .i64 a0_5] 29 (0, 0))) ∧ Aside0 (Below w.heap.size w wc))
 case first =>
  have H := HC3.out
  clear HC3
  by_cases c15 : a0_0 = true
  ·subst c15
   have H1 : (squelchref08_Agree.j0 k true a0_1 a0_2 a0_3 a0_4 a0_5 a1_0 a1_1 a1_2 a1_3 a1_4 a1_5 a1_0 a0_1 a0_2 a0_3 a0_4 a0_5) = some (r1, r2, r3, r4, r5, r6) := by rw [if_pos rfl] at H; exact H
   clear H
   have H := H1
   clear H1
   have H' := Aside0.mk H
   clear H
   have hnb16 := NB171_172.out
   have hnc16 := NB172_171.out
   have hnb17 := NB171_173.out
   have hnc17 := NB173_171.out
   have hnb18 := NB171_174.out
   have hnc18 := NB174_171.out
   have hcz19_0 : w10.cell? ⟨gb171, 0, none⟩ = some (.bool true) := (blk_cell BK171.out 0).trans rfl
   have hcz19_1 : w10.cell? ⟨gb171, 1, none⟩ = some (.bool a0_1) := (blk_cell BK171.out 1).trans rfl
   have hcz19_2 : w10.cell? ⟨gb171, 2, none⟩ = some (.int .i64 a0_2) := (blk_cell BK171.out 2).trans rfl
   have hcz19_3 : w10.cell? ⟨gb171, 3, none⟩ = some (.int .i64 a0_3) := (blk_cell BK171.out 3).trans rfl
   have hcz19_4 : w10.cell? ⟨gb171, 4, none⟩ = some (.int .i64 a0_4) := (blk_cell BK171.out 4).trans rfl
   have hcz19_5 : w10.cell? ⟨gb171, 5, none⟩ = some (.int .i64 a0_5) := (blk_cell BK171.out 5).trans rfl
   have hfz19_0 := blk_frozen BK171.out 0
   have hfz19_1 := blk_frozen BK171.out 1
   have hfz19_2 := blk_frozen BK171.out 2
   have hfz19_3 := blk_frozen BK171.out 3
   have hfz19_4 := blk_frozen BK171.out 4
   have hfz19_5 := blk_frozen BK171.out 5
   have hnb20 := NB172_173.out
   have hnc20 := NB173_172.out
   have hnb21 := NB172_174.out
   have hnc21 := NB174_172.out
   have hcz22_0 : w10.cell? ⟨gb172, 0, none⟩ = some (.bool a1_0) := (blk_cell BK172.out 0).trans rfl
   have hcz22_1 : w10.cell? ⟨gb172, 1, none⟩ = some (.bool a1_1) := (blk_cell BK172.out 1).trans rfl
   have hcz22_2 : w10.cell? ⟨gb172, 2, none⟩ = some (.int .i64 a1_2) := (blk_cell BK172.out 2).trans rfl
   have hcz22_3 : w10.cell? ⟨gb172, 3, none⟩ = some (.int .i64 a1_3) := (blk_cell BK172.out 3).trans rfl
   have hcz22_4 : w10.cell? ⟨gb172, 4, none⟩ = some (.int .i64 a1_4) := (blk_cell BK172.out 4).trans rfl
   have hcz22_5 : w10.cell? ⟨gb172, 5, none⟩ = some (.int .i64 a1_5) := (blk_cell BK172.out 5).trans rfl
   have hfz22_0 := blk_frozen BK172.out 0
   have hfz22_1 := blk_frozen BK172.out 1
   have hfz22_2 := blk_frozen BK172.out 2
   have hfz22_3 := blk_frozen BK172.out 3
   have hfz22_4 := blk_frozen BK172.out 4
   have hfz22_5 := blk_frozen BK172.out 5
   have hnb23 := NB174_173.out
   have hnc23 := NB173_174.out
   have hcz24_0 : w10.cell? ⟨gb174, 0, none⟩ = some (.bool false) := (blk_cell BK174.out 0).trans rfl
   have hcz24_1 : w10.cell? ⟨gb174, 1, none⟩ = some (.bool false) := (blk_cell BK174.out 1).trans rfl
   have hcz24_2 : w10.cell? ⟨gb174, 2, none⟩ = some (.int .i64 0) := (blk_cell BK174.out 2).trans rfl
   have hcz24_3 : w10.cell? ⟨gb174, 3, none⟩ = some (.int .i64 0) := (blk_cell BK174.out 3).trans rfl
   have hcz24_4 : w10.cell? ⟨gb174, 4, none⟩ = some (.int .i64 0) := (blk_cell BK174.out 4).trans rfl
   have hcz24_5 : w10.cell? ⟨gb174, 5, none⟩ = some (.int .i64 0) := (blk_cell BK174.out 5).trans rfl
   have hfz24_0 := blk_frozen BK174.out 0
   have hfz24_1 := blk_frozen BK174.out 1
   have hfz24_2 := blk_frozen BK174.out 2
   have hfz24_3 := blk_frozen BK174.out 3
   have hfz24_4 := blk_frozen BK174.out 4
   have hfz24_5 := blk_frozen BK174.out 5
   go_wp2
   go_meet
   case rel => exact ⟨_, (a1_0), H', ⟨by first | omega | exact Nat.le_refl _⟩, ⟨by (with_reducible repeat (first | refine blk_drewN ?_ _ | refine blk_drew ?_ | refine blk_alloc ?_ _)); refine blk_far ?_ NB171_174.out _; (with_reducible repeat (first | refine blk_drewN ?_ _ | refine blk_drew ?_ | refine blk_alloc ?_ _)); refine blk_far ?_ NB171_174.out _; (with_reducible repeat (first | refine blk_drewN ?_ _ | refine blk_drew ?_ | refine blk_alloc ?_ _)); refine blk_far ?_ NB171_174.out _; (with_reducible repeat (first | refine blk_drewN ?_ _ | refine blk_drew ?_ | refine blk_alloc ?_ _)); refine blk_far ?_ NB171_174.out _; (with_reducible repeat (first | refine blk_drewN ?_ _ | refine blk_drew ?_ | refine blk_alloc ?_ _)); refine blk_far ?_ NB171_174.out _; (with_reducible repeat (first | refine blk_drewN ?_ _ | refine blk_drew ?_ | refine blk_alloc ?_ _)); refine blk_far ?_ NB171_174.out _; (with_reducible repeat (first | refine blk_drewN ?_ _ | refine blk_drew ?_ | refine blk_alloc ?_ _)); refine blk_far ?_ NB171_174.out _; (with_reducible repeat (first | refine blk_drewN ?_ _ | refine blk_drew ?_ | refine blk_alloc ?_ _)); exact BK171.out⟩, ⟨by (with_reducible repeat (first | refine blk_drewN ?_ _ | refine blk_drew ?_ | refine blk_alloc ?_ _)); refine blk_far ?_ NB172_174.out _; (with_reducible repeat (first | refine blk_drewN ?_ _ | refine blk_drew ?_ | refine blk_alloc ?_ _)); refine blk_far ?_ NB172_174.out _; (with_reducible repeat (first | refine blk_drewN ?_ _ | refine blk_drew ?_ | refine blk_alloc ?_ _)); refine blk_far ?_ NB172_174.out _; (with_reducible repeat (first | refine blk_drewN ?_ _ | refine blk_drew ?_ | refine blk_alloc ?_ _)); refine blk_far ?_ NB172_174.out _; (with_reducible repeat (first | refine blk_drewN ?_ _ | refine blk_drew ?_ | refine blk_alloc ?_ _)); refine blk_far ?_ NB172_174.out _; (with_reducible repeat (first | refine blk_drewN ?_ _ | refine blk_drew ?_ | refine blk_alloc ?_ _)); refine blk_far ?_ NB172_174.out _; (with_reducible repeat (first | refine blk_drewN ?_ _ | refine blk_drew ?_ | refine blk_alloc ?_ _)); refine blk_far ?_ NB172_174.out _; (with_reducible repeat (first | refine blk_drewN ?_ _ | refine blk_drew ?_ | refine blk_alloc ?_ _)); exact BK172.out⟩, ⟨by (with_reducible repeat (first | refine blk_drewN ?_ _ | refine blk_drew ?_ | refine blk_alloc ?_ _)); refine blk_far ?_ NB173_174.out _; (with_reducible repeat (first | refine blk_drewN ?_ _ | refine blk_drew ?_ | refine blk_alloc ?_ _)); refine blk_far ?_ NB173_174.out _; (with_reducible repeat (first | refine blk_drewN ?_ _ | refine blk_drew ?_ | refine blk_alloc ?_ _)); refine blk_far ?_ NB173_174.out _; (with_reducible repeat (first | refine blk_drewN ?_ _ | refine blk_drew ?_ | refine blk_alloc ?_ _)); refine blk_far ?_ NB173_174.out _; (with_reducible repeat (first | refine blk_drewN ?_ _ | refine blk_drew ?_ | refine blk_alloc ?_ _)); refine blk_far ?_ NB173_174.out _; (with_reducible repeat (first | refine blk_drewN ?_ _ | refine blk_drew ?_ | refine blk_alloc ?_ _)); refine blk_far ?_ NB173_174.out _; (with_reducible repeat (first | refine blk_drewN ?_ _ | refine blk_drew ?_ | refine blk_alloc ?_ _)); refine blk_far ?_ NB173_174.out _; (with_reducible repeat (first | refine blk_drewN ?_ _ | refine blk_drew ?_ | refine blk_alloc ?_ _)); exact BK173.out⟩, ⟨by (with_reducible repeat (first | refine blk_drewN ?_ _ | refine blk_drew ?_ | refine blk_alloc ?_ _)); refine blk_put (cs := #[.bool true, .bool a0_1, .int .i64 a0_2, .int .i64 a0_3, .int .i64 a0_4, .int .i64 a0_5]) ?_ 0 _ rfl; (with_reducible repeat (first | refine blk_drewN ?_ _ | refine blk_drew ?_ | refine blk_alloc ?_ _)); refine blk_put (cs := #[.bool true, .bool a0_1, .int .i64 a0_2, .int .i64 a0_3, .int .i64 a0_4, .int .i64 0]) ?_ 5 _ rfl; (with_reducible repeat (first | refine blk_drewN ?_ _ | refine blk_drew ?_ | refine blk_alloc ?_ _)); refine blk_put (cs := #[.bool true, .bool a0_1, .int .i64 a0_2, .int .i64 a0_3, .int .i64 0, .int .i64 0]) ?_ 4 _ rfl; (with_reducible repeat (first | refine blk_drewN ?_ _ | refine blk_drew ?_ | refine blk_alloc ?_ _)); refine blk_put (cs := #[.bool true, .bool a0_1, .int .i64 a0_2, .int .i64 0, .int .i64 0, .int .i64 0]) ?_ 3 _ rfl; (with_reducible repeat (first | refine blk_drewN ?_ _ | refine blk_drew ?_ | refine blk_alloc ?_ _)); refine blk_put (cs := #[.bool true, .bool a0_1, .int .i64 0, .int .i64 0, .int .i64 0, .int .i64 0]) ?_ 2 _ rfl; (with_reducible repeat (first | refine blk_drewN ?_ _ | refine blk_drew ?_ | refine blk_alloc ?_ _)); refine blk_put (cs := #[.bool true, .bool false, .int .i64 0, .int .i64 0, .int .i64 0, .int .i64 0]) ?_ 1 _ rfl; (with_reducible repeat (first | refine blk_drewN ?_ _ | refine blk_drew ?_ | refine blk_alloc ?_ _)); refine blk_put (cs := #[.bool false, .bool false, .int .i64 0, .int .i64 0, .int .i64 0, .int .i64 0]) ?_ 0 _ rfl; (with_reducible repeat (first | refine blk_drewN ?_ _ | refine blk_drew ?_ | refine blk_alloc ?_ _)); exact BK174.out⟩, ⟨by repeat (first | (with_reducible first | exact HB.out | apply below_alloc | apply pw_below_drewN | apply below_drew1 | refine below_set ?_ GE171.out | refine below_set ?_ GE172.out | refine below_set ?_ GE173.out | refine below_set ?_ GE174.out) | exact HB.out)⟩⟩
  ·replace c15 := Bool.eq_false_iff.mpr c15
   subst c15
   have H1 : (squelchref08_Agree.j0 k false a0_1 a0_2 a0_3 a0_4 a0_5 a1_0 a1_1 a1_2 a1_3 a1_4 a1_5 false a0_1 a0_2 a0_3 a0_4 a0_5) = some (r1, r2, r3, r4, r5, r6) := by rw [if_neg (show ¬ (false = true) by decide)] at H; exact H
   clear H
   have H := H1
   clear H1
   have H' := Aside0.mk H
   clear H
   have hnb25 := NB171_172.out
   have hnc25 := NB172_171.out
   have hnb26 := NB171_173.out
   have hnc26 := NB173_171.out
   have hnb27 := NB171_174.out
   have hnc27 := NB174_171.out
   have hcz28_0 : w10.cell? ⟨gb171, 0, none⟩ = some (.bool false) := (blk_cell BK171.out 0).trans rfl
   have hcz28_1 : w10.cell? ⟨gb171, 1, none⟩ = some (.bool a0_1) := (blk_cell BK171.out 1).trans rfl
   have hcz28_2 : w10.cell? ⟨gb171, 2, none⟩ = some (.int .i64 a0_2) := (blk_cell BK171.out 2).trans rfl
   have hcz28_3 : w10.cell? ⟨gb171, 3, none⟩ = some (.int .i64 a0_3) := (blk_cell BK171.out 3).trans rfl
   have hcz28_4 : w10.cell? ⟨gb171, 4, none⟩ = some (.int .i64 a0_4) := (blk_cell BK171.out 4).trans rfl
   have hcz28_5 : w10.cell? ⟨gb171, 5, none⟩ = some (.int .i64 a0_5) := (blk_cell BK171.out 5).trans rfl
   have hfz28_0 := blk_frozen BK171.out 0
   have hfz28_1 := blk_frozen BK171.out 1
   have hfz28_2 := blk_frozen BK171.out 2
   have hfz28_3 := blk_frozen BK171.out 3
   have hfz28_4 := blk_frozen BK171.out 4
   have hfz28_5 := blk_frozen BK171.out 5
   have hnb29 := NB174_172.out
   have hnc29 := NB172_174.out
   have hnb30 := NB174_173.out
   have hnc30 := NB173_174.out
   have hcz31_0 : w10.cell? ⟨gb174, 0, none⟩ = some (.bool false) := (blk_cell BK174.out 0).trans rfl
   have hcz31_1 : w10.cell? ⟨gb174, 1, none⟩ = some (.bool false) := (blk_cell BK174.out 1).trans rfl
   have hcz31_2 : w10.cell? ⟨gb174, 2, none⟩ = some (.int .i64 0) := (blk_cell BK174.out 2).trans rfl
   have hcz31_3 : w10.cell? ⟨gb174, 3, none⟩ = some (.int .i64 0) := (blk_cell BK174.out 3).trans rfl
   have hcz31_4 : w10.cell? ⟨gb174, 4, none⟩ = some (.int .i64 0) := (blk_cell BK174.out 4).trans rfl
   have hcz31_5 : w10.cell? ⟨gb174, 5, none⟩ = some (.int .i64 0) := (blk_cell BK174.out 5).trans rfl
   have hfz31_0 := blk_frozen BK174.out 0
   have hfz31_1 := blk_frozen BK174.out 1
   have hfz31_2 := blk_frozen BK174.out 2
   have hfz31_3 := blk_frozen BK174.out 3
   have hfz31_4 := blk_frozen BK174.out 4
   have hfz31_5 := blk_frozen BK174.out 5
   go_wp2
   go_meet
   case rel => exact ⟨_, (false), H', ⟨by first | omega | exact Nat.le_refl _⟩, ⟨by (with_reducible repeat (first | refine blk_drewN ?_ _ | refine blk_drew ?_ | refine blk_alloc ?_ _)); refine blk_far ?_ NB171_174.out _; (with_reducible repeat (first | refine blk_drewN ?_ _ | refine blk_drew ?_ | refine blk_alloc ?_ _)); refine blk_far ?_ NB171_174.out _; (with_reducible repeat (first | refine blk_drewN ?_ _ | refine blk_drew ?_ | refine blk_alloc ?_ _)); refine blk_far ?_ NB171_174.out _; (with_reducible repeat (first | refine blk_drewN ?_ _ | refine blk_drew ?_ | refine blk_alloc ?_ _)); refine blk_far ?_ NB171_174.out _; (with_reducible repeat (first | refine blk_drewN ?_ _ | refine blk_drew ?_ | refine blk_alloc ?_ _)); refine blk_far ?_ NB171_174.out _; (with_reducible repeat (first | refine blk_drewN ?_ _ | refine blk_drew ?_ | refine blk_alloc ?_ _)); refine blk_far ?_ NB171_174.out _; (with_reducible repeat (first | refine blk_drewN ?_ _ | refine blk_drew ?_ | refine blk_alloc ?_ _)); refine blk_far ?_ NB171_174.out _; (with_reducible repeat (first | refine blk_drewN ?_ _ | refine blk_drew ?_ | refine blk_alloc ?_ _)); exact BK171.out⟩, ⟨by (with_reducible repeat (first | refine blk_drewN ?_ _ | refine blk_drew ?_ | refine blk_alloc ?_ _)); refine blk_far ?_ NB172_174.out _; (with_reducible repeat (first | refine blk_drewN ?_ _ | refine blk_drew ?_ | refine blk_alloc ?_ _)); refine blk_far ?_ NB172_174.out _; (with_reducible repeat (first | refine blk_drewN ?_ _ | refine blk_drew ?_ | refine blk_alloc ?_ _)); refine blk_far ?_ NB172_174.out _; (with_reducible repeat (first | refine blk_drewN ?_ _ | refine blk_drew ?_ | refine blk_alloc ?_ _)); refine blk_far ?_ NB172_174.out _; (with_reducible repeat (first | refine blk_drewN ?_ _ | refine blk_drew ?_ | refine blk_alloc ?_ _)); refine blk_far ?_ NB172_174.out _; (with_reducible repeat (first | refine blk_drewN ?_ _ | refine blk_drew ?_ | refine blk_alloc ?_ _)); refine blk_far ?_ NB172_174.out _; (with_reducible repeat (first | refine blk_drewN ?_ _ | refine blk_drew ?_ | refine blk_alloc ?_ _)); refine blk_far ?_ NB172_174.out _; (with_reducible repeat (first | refine blk_drewN ?_ _ | refine blk_drew ?_ | refine blk_alloc ?_ _)); exact BK172.out⟩, ⟨by (with_reducible repeat (first | refine blk_drewN ?_ _ | refine blk_drew ?_ | refine blk_alloc ?_ _)); refine blk_far ?_ NB173_174.out _; (with_reducible repeat (first | refine blk_drewN ?_ _ | refine blk_drew ?_ | refine blk_alloc ?_ _)); refine blk_far ?_ NB173_174.out _; (with_reducible repeat (first | refine blk_drewN ?_ _ | refine blk_drew ?_ | refine blk_alloc ?_ _)); refine blk_far ?_ NB173_174.out _; (with_reducible repeat (first | refine blk_drewN ?_ _ | refine blk_drew ?_ | refine blk_alloc ?_ _)); refine blk_far ?_ NB173_174.out _; (with_reducible repeat (first | refine blk_drewN ?_ _ | refine blk_drew ?_ | refine blk_alloc ?_ _)); refine blk_far ?_ NB173_174.out _; (with_reducible repeat (first | refine blk_drewN ?_ _ | refine blk_drew ?_ | refine blk_alloc ?_ _)); refine blk_far ?_ NB173_174.out _; (with_reducible repeat (first | refine blk_drewN ?_ _ | refine blk_drew ?_ | refine blk_alloc ?_ _)); refine blk_far ?_ NB173_174.out _; (with_reducible repeat (first | refine blk_drewN ?_ _ | refine blk_drew ?_ | refine blk_alloc ?_ _)); exact BK173.out⟩, ⟨by (with_reducible repeat (first | refine blk_drewN ?_ _ | refine blk_drew ?_ | refine blk_alloc ?_ _)); refine blk_put (cs := #[.bool false, .bool a0_1, .int .i64 a0_2, .int .i64 a0_3, .int .i64 a0_4, .int .i64 a0_5]) ?_ 0 _ rfl; (with_reducible repeat (first | refine blk_drewN ?_ _ | refine blk_drew ?_ | refine blk_alloc ?_ _)); refine blk_put (cs := #[.bool false, .bool a0_1, .int .i64 a0_2, .int .i64 a0_3, .int .i64 a0_4, .int .i64 0]) ?_ 5 _ rfl; (with_reducible repeat (first | refine blk_drewN ?_ _ | refine blk_drew ?_ | refine blk_alloc ?_ _)); refine blk_put (cs := #[.bool false, .bool a0_1, .int .i64 a0_2, .int .i64 a0_3, .int .i64 0, .int .i64 0]) ?_ 4 _ rfl; (with_reducible repeat (first | refine blk_drewN ?_ _ | refine blk_drew ?_ | refine blk_alloc ?_ _)); refine blk_put (cs := #[.bool false, .bool a0_1, .int .i64 a0_2, .int .i64 0, .int .i64 0, .int .i64 0]) ?_ 3 _ rfl; (with_reducible repeat (first | refine blk_drewN ?_ _ | refine blk_drew ?_ | refine blk_alloc ?_ _)); refine blk_put (cs := #[.bool false, .bool a0_1, .int .i64 0, .int .i64 0, .int .i64 0, .int .i64 0]) ?_ 2 _ rfl; (with_reducible repeat (first | refine blk_drewN ?_ _ | refine blk_drew ?_ | refine blk_alloc ?_ _)); refine blk_put (cs := #[.bool false, .bool false, .int .i64 0, .int .i64 0, .int .i64 0, .int .i64 0]) ?_ 1 _ rfl; (with_reducible repeat (first | refine blk_drewN ?_ _ | refine blk_drew ?_ | refine blk_alloc ?_ _)); refine blk_put (cs := #[.bool false, .bool false, .int .i64 0, .int .i64 0, .int .i64 0, .int .i64 0]) ?_ 0 _ rfl; (with_reducible repeat (first | refine blk_drewN ?_ _ | refine blk_drew ?_ | refine blk_alloc ?_ _)); exact BK174.out⟩, ⟨by repeat (first | (with_reducible first | exact HB.out | apply below_alloc | apply pw_below_drewN | apply below_drew1 | refine below_set ?_ GE171.out | refine below_set ?_ GE172.out | refine below_set ?_ GE173.out | refine below_set ?_ GE174.out) | exact HB.out)⟩⟩
 case rest =>
  clear HC3
  try clear c1
  try clear c2
  try clear p2
  try clear c3
  try clear c7
  try clear c8
  try clear c11
  try clear c12
  try clear c13
  try clear c15
  try clear c16
  try clear c17
  try clear c18
  try clear c20
  try clear c21
  try clear c23
  try clear c25
  try clear c26
  try clear c27
  try clear c29
  try clear c30
  try clear hcz14_0
  try clear hcz14_1
  try clear hcz14_2
  try clear hcz14_3
  try clear hcz14_4
  try clear hcz14_5
  try clear hcz19_0
  try clear hcz19_1
  try clear hcz19_2
  try clear hcz19_3
  try clear hcz19_4
  try clear hcz19_5
  try clear hcz22_0
  try clear hcz22_1
  try clear hcz22_2
  try clear hcz22_3
  try clear hcz22_4
  try clear hcz22_5
  try clear hcz24_0
  try clear hcz24_1
  try clear hcz24_2
  try clear hcz24_3
  try clear hcz24_4
  try clear hcz24_5
  try clear hcz28_0
  try clear hcz28_1
  try clear hcz28_2
  try clear hcz28_3
  try clear hcz28_4
  try clear hcz28_5
  try clear hcz31_0
  try clear hcz31_1
  try clear hcz31_2
  try clear hcz31_3
  try clear hcz31_4
  try clear hcz31_5
  try clear hcz9_0
  try clear hcz9_1
  try clear hcz9_2
  try clear hcz9_3
  try clear hcz9_4
  try clear hcz9_5
  try clear hfz14_0
  try clear hfz14_1
  try clear hfz14_2
  try clear hfz14_3
  try clear hfz14_4
  try clear hfz14_5
  try clear hfz19_0
  try clear hfz19_1
  try clear hfz19_2
  try clear hfz19_3
  try clear hfz19_4
  try clear hfz19_5
  try clear hfz22_0
  try clear hfz22_1
  try clear hfz22_2
  try clear hfz22_3
  try clear hfz22_4
  try clear hfz22_5
  try clear hfz24_0
  try clear hfz24_1
  try clear hfz24_2
  try clear hfz24_3
  try clear hfz24_4
  try clear hfz24_5
  try clear hfz28_0
  try clear hfz28_1
  try clear hfz28_2
  try clear hfz28_3
  try clear hfz28_4
  try clear hfz28_5
  try clear hfz31_0
  try clear hfz31_1
  try clear hfz31_2
  try clear hfz31_3
  try clear hfz31_4
  try clear hfz31_5
  try clear hfz9_0
  try clear hfz9_1
  try clear hfz9_2
  try clear hfz9_3
  try clear hfz9_4
  try clear hfz9_5
  obtain ⟨kq, x175000_2, HA, HJ2, BK171, BK172, BK173, BK174, HB⟩ := hcut
  cases kq with
  | zero => exact absurd HA.out (by simp [squelchref08_Agree.j0])
  | succ kj2 =>
   have H := HA.out
   clear HA
   simp only [squelchref08_Agree.j0] at H
   have HC32 := Aside0.mk H
   clear H
   go_upto_region 3 with (fail)
   go_cut [] (fun wc => ∃ (kq : Nat) (x175001_31 : Bool), Aside0 (squelchref08_Agree.j1 kq a1_0 a1_1 a1_2 a1_3 a1_4 a1_5 x175000_2 x175001_31 a0_2 a0_3 a0_4 a0_5 = some (r1, r2, r3, r4, r5, r6)) ∧ Aside0 (kq ≤ kj2) ∧ Aside0 (wc.heap[gb171]? = some (.cells #[.bool a0_0, .bool a0_1, .int .i64 a0_2, .int .i64 a0_3, .int .i64 a0_4, .int .i64 a0_5] 29 (0, 0))) ∧ Aside0 (wc.heap[gb172]? = some (.cells #[.bool a1_0, .bool a1_1, .int .i64 a1_2, .int .i64 a1_3, .int .i64 a1_4, .int .i64 a1_5] 29 (0, 0))) ∧ Aside0 (wc.heap[gb173]? = some (.cells #[.bool false, .bool false, .int .i64 0, .int .i64 0, .int .i64 0, .int .i64 0] 29 (0, 0))) ∧ Aside0 (wc.heap[gb174]? = some (.cells #[.bool x175000_2, .bool x175001_31, .int .i64 a0_2, .int .i64 a0_3, .int .i64 a0_4, .int .i64 a0_5] 29 (0, 0))) ∧ Aside0 (Below w.heap.size w wc))
   case first =>
    have H := HC32.out
    clear HC32
    by_cases c33 : a0_1 = true
    ·subst c33
     have H1 : (squelchref08_Agree.j1 kj2 a1_0 a1_1 a1_2 a1_3 a1_4 a1_5 x175000_2 a1_1 a0_2 a0_3 a0_4 a0_5) = some (r1, r2, r3, r4, r5, r6) := by rw [if_pos rfl] at H; exact H
     clear H
     have H := H1
     clear H1
     have H' := Aside0.mk H
     clear H
     have hnb34 := NB171_172.out
     have hnc34 := NB172_171.out
     have hnb35 := NB171_173.out
     have hnc35 := NB173_171.out
     have hnb36 := NB171_174.out
     have hnc36 := NB174_171.out
     have hcz37_0 : wc.cell? ⟨gb171, 0, none⟩ = some (.bool a0_0) := (blk_cell BK171.out 0).trans rfl
     have hcz37_1 : wc.cell? ⟨gb171, 1, none⟩ = some (.bool true) := (blk_cell BK171.out 1).trans rfl
     have hcz37_2 : wc.cell? ⟨gb171, 2, none⟩ = some (.int .i64 a0_2) := (blk_cell BK171.out 2).trans rfl
     have hcz37_3 : wc.cell? ⟨gb171, 3, none⟩ = some (.int .i64 a0_3) := (blk_cell BK171.out 3).trans rfl
     have hcz37_4 : wc.cell? ⟨gb171, 4, none⟩ = some (.int .i64 a0_4) := (blk_cell BK171.out 4).trans rfl
     have hcz37_5 : wc.cell? ⟨gb171, 5, none⟩ = some (.int .i64 a0_5) := (blk_cell BK171.out 5).trans rfl
     have hfz37_0 := blk_frozen BK171.out 0
     have hfz37_1 := blk_frozen BK171.out 1
     have hfz37_2 := blk_frozen BK171.out 2
     have hfz37_3 := blk_frozen BK171.out 3
     have hfz37_4 := blk_frozen BK171.out 4
     have hfz37_5 := blk_frozen BK171.out 5
     have hnb38 := NB172_173.out
     have hnc38 := NB173_172.out
     have hnb39 := NB172_174.out
     have hnc39 := NB174_172.out
     have hcz40_0 : wc.cell? ⟨gb172, 0, none⟩ = some (.bool a1_0) := (blk_cell BK172.out 0).trans rfl
     have hcz40_1 : wc.cell? ⟨gb172, 1, none⟩ = some (.bool a1_1) := (blk_cell BK172.out 1).trans rfl
     have hcz40_2 : wc.cell? ⟨gb172, 2, none⟩ = some (.int .i64 a1_2) := (blk_cell BK172.out 2).trans rfl
     have hcz40_3 : wc.cell? ⟨gb172, 3, none⟩ = some (.int .i64 a1_3) := (blk_cell BK172.out 3).trans rfl
     have hcz40_4 : wc.cell? ⟨gb172, 4, none⟩ = some (.int .i64 a1_4) := (blk_cell BK172.out 4).trans rfl
     have hcz40_5 : wc.cell? ⟨gb172, 5, none⟩ = some (.int .i64 a1_5) := (blk_cell BK172.out 5).trans rfl
     have hfz40_0 := blk_frozen BK172.out 0
     have hfz40_1 := blk_frozen BK172.out 1
     have hfz40_2 := blk_frozen BK172.out 2
     have hfz40_3 := blk_frozen BK172.out 3
     have hfz40_4 := blk_frozen BK172.out 4
     have hfz40_5 := blk_frozen BK172.out 5
     have hnb41 := NB174_173.out
     have hnc41 := NB173_174.out
     have hcz42_0 : wc.cell? ⟨gb174, 0, none⟩ = some (.bool x175000_2) := (blk_cell BK174.out 0).trans rfl
     have hcz42_1 : wc.cell? ⟨gb174, 1, none⟩ = some (.bool true) := (blk_cell BK174.out 1).trans rfl
     have hcz42_2 : wc.cell? ⟨gb174, 2, none⟩ = some (.int .i64 a0_2) := (blk_cell BK174.out 2).trans rfl
     have hcz42_3 : wc.cell? ⟨gb174, 3, none⟩ = some (.int .i64 a0_3) := (blk_cell BK174.out 3).trans rfl
     have hcz42_4 : wc.cell? ⟨gb174, 4, none⟩ = some (.int .i64 a0_4) := (blk_cell BK174.out 4).trans rfl
     have hcz42_5 : wc.cell? ⟨gb174, 5, none⟩ = some (.int .i64 a0_5) := (blk_cell BK174.out 5).trans rfl
     have hfz42_0 := blk_frozen BK174.out 0
     have hfz42_1 := blk_frozen BK174.out 1
     have hfz42_2 := blk_frozen BK174.out 2
     have hfz42_3 := blk_frozen BK174.out 3
     have hfz42_4 := blk_frozen BK174.out 4
     have hfz42_5 := blk_frozen BK174.out 5
     go_wp2
     go_meet
     case rel => exact ⟨_, (a1_1), H', ⟨by have := HJ2.out; first | omega | exact Nat.le_refl _⟩, ⟨by (with_reducible repeat (first | refine blk_drewN ?_ _ | refine blk_drew ?_ | refine blk_alloc ?_ _)); refine blk_far ?_ NB171_174.out _; (with_reducible repeat (first | refine blk_drewN ?_ _ | refine blk_drew ?_ | refine blk_alloc ?_ _)); exact BK171.out⟩, ⟨by (with_reducible repeat (first | refine blk_drewN ?_ _ | refine blk_drew ?_ | refine blk_alloc ?_ _)); refine blk_far ?_ NB172_174.out _; (with_reducible repeat (first | refine blk_drewN ?_ _ | refine blk_drew ?_ | refine blk_alloc ?_ _)); exact BK172.out⟩, ⟨by (with_reducible repeat (first | refine blk_drewN ?_ _ | refine blk_drew ?_ | refine blk_alloc ?_ _)); refine blk_far ?_ NB173_174.out _; (with_reducible repeat (first | refine blk_drewN ?_ _ | refine blk_drew ?_ | refine blk_alloc ?_ _)); exact BK173.out⟩, ⟨by (with_reducible repeat (first | refine blk_drewN ?_ _ | refine blk_drew ?_ | refine blk_alloc ?_ _)); refine blk_put (cs := #[.bool x175000_2, .bool true, .int .i64 a0_2, .int .i64 a0_3, .int .i64 a0_4, .int .i64 a0_5]) ?_ 1 _ rfl; (with_reducible repeat (first | refine blk_drewN ?_ _ | refine blk_drew ?_ | refine blk_alloc ?_ _)); exact BK174.out⟩, ⟨by repeat (first | (with_reducible first | exact HB.out | apply below_alloc | apply pw_below_drewN | apply below_drew1 | refine below_set ?_ GE171.out | refine below_set ?_ GE172.out | refine below_set ?_ GE173.out | refine below_set ?_ GE174.out) | exact HB.out)⟩⟩
    ·replace c33 := Bool.eq_false_iff.mpr c33
     subst c33
     have H1 : (squelchref08_Agree.j1 kj2 a1_0 a1_1 a1_2 a1_3 a1_4 a1_5 x175000_2 false a0_2 a0_3 a0_4 a0_5) = some (r1, r2, r3, r4, r5, r6) := by rw [if_neg (show ¬ (false = true) by decide)] at H; exact H
     clear H
     have H := H1
     clear H1
     have H' := Aside0.mk H
     clear H
     have hnb43 := NB171_172.out
     have hnc43 := NB172_171.out
     have hnb44 := NB171_173.out
     have hnc44 := NB173_171.out
     have hnb45 := NB171_174.out
     have hnc45 := NB174_171.out
     have hcz46_0 : wc.cell? ⟨gb171, 0, none⟩ = some (.bool a0_0) := (blk_cell BK171.out 0).trans rfl
     have hcz46_1 : wc.cell? ⟨gb171, 1, none⟩ = some (.bool false) := (blk_cell BK171.out 1).trans rfl
     have hcz46_2 : wc.cell? ⟨gb171, 2, none⟩ = some (.int .i64 a0_2) := (blk_cell BK171.out 2).trans rfl
     have hcz46_3 : wc.cell? ⟨gb171, 3, none⟩ = some (.int .i64 a0_3) := (blk_cell BK171.out 3).trans rfl
     have hcz46_4 : wc.cell? ⟨gb171, 4, none⟩ = some (.int .i64 a0_4) := (blk_cell BK171.out 4).trans rfl
     have hcz46_5 : wc.cell? ⟨gb171, 5, none⟩ = some (.int .i64 a0_5) := (blk_cell BK171.out 5).trans rfl
     have hfz46_0 := blk_frozen BK171.out 0
     have hfz46_1 := blk_frozen BK171.out 1
     have hfz46_2 := blk_frozen BK171.out 2
     have hfz46_3 := blk_frozen BK171.out 3
     have hfz46_4 := blk_frozen BK171.out 4
     have hfz46_5 := blk_frozen BK171.out 5
     have hnb47 := NB174_172.out
     have hnc47 := NB172_174.out
     have hnb48 := NB174_173.out
     have hnc48 := NB173_174.out
     have hcz49_0 : wc.cell? ⟨gb174, 0, none⟩ = some (.bool x175000_2) := (blk_cell BK174.out 0).trans rfl
     have hcz49_1 : wc.cell? ⟨gb174, 1, none⟩ = some (.bool false) := (blk_cell BK174.out 1).trans rfl
     have hcz49_2 : wc.cell? ⟨gb174, 2, none⟩ = some (.int .i64 a0_2) := (blk_cell BK174.out 2).trans rfl
     have hcz49_3 : wc.cell? ⟨gb174, 3, none⟩ = some (.int .i64 a0_3) := (blk_cell BK174.out 3).trans rfl
     have hcz49_4 : wc.cell? ⟨gb174, 4, none⟩ = some (.int .i64 a0_4) := (blk_cell BK174.out 4).trans rfl
     have hcz49_5 : wc.cell? ⟨gb174, 5, none⟩ = some (.int .i64 a0_5) := (blk_cell BK174.out 5).trans rfl
     have hfz49_0 := blk_frozen BK174.out 0
     have hfz49_1 := blk_frozen BK174.out 1
     have hfz49_2 := blk_frozen BK174.out 2
     have hfz49_3 := blk_frozen BK174.out 3
     have hfz49_4 := blk_frozen BK174.out 4
     have hfz49_5 := blk_frozen BK174.out 5
     go_wp2
     go_meet
     case rel => exact ⟨_, (false), H', ⟨by have := HJ2.out; first | omega | exact Nat.le_refl _⟩, ⟨by (with_reducible repeat (first | refine blk_drewN ?_ _ | refine blk_drew ?_ | refine blk_alloc ?_ _)); refine blk_far ?_ NB171_174.out _; (with_reducible repeat (first | refine blk_drewN ?_ _ | refine blk_drew ?_ | refine blk_alloc ?_ _)); exact BK171.out⟩, ⟨by (with_reducible repeat (first | refine blk_drewN ?_ _ | refine blk_drew ?_ | refine blk_alloc ?_ _)); refine blk_far ?_ NB172_174.out _; (with_reducible repeat (first | refine blk_drewN ?_ _ | refine blk_drew ?_ | refine blk_alloc ?_ _)); exact BK172.out⟩, ⟨by (with_reducible repeat (first | refine blk_drewN ?_ _ | refine blk_drew ?_ | refine blk_alloc ?_ _)); refine blk_far ?_ NB173_174.out _; (with_reducible repeat (first | refine blk_drewN ?_ _ | refine blk_drew ?_ | refine blk_alloc ?_ _)); exact BK173.out⟩, ⟨by (with_reducible repeat (first | refine blk_drewN ?_ _ | refine blk_drew ?_ | refine blk_alloc ?_ _)); refine blk_put (cs := #[.bool x175000_2, .bool false, .int .i64 a0_2, .int .i64 a0_3, .int .i64 a0_4, .int .i64 a0_5]) ?_ 1 _ rfl; (with_reducible repeat (first | refine blk_drewN ?_ _ | refine blk_drew ?_ | refine blk_alloc ?_ _)); exact BK174.out⟩, ⟨by repeat (first | (with_reducible first | exact HB.out | apply below_alloc | apply pw_below_drewN | apply below_drew1 | refine below_set ?_ GE171.out | refine below_set ?_ GE172.out | refine below_set ?_ GE173.out | refine below_set ?_ GE174.out) | exact HB.out)⟩⟩
   case rest =>
    clear HC32
    try clear c1
    try clear c2
    try clear p2
    try clear c3
    try clear c4
    try clear c7
    try clear c8
    try clear c11
    try clear c12
    try clear c13
    try clear c15
    try clear c16
    try clear c17
    try clear c18
    try clear c20
    try clear c21
    try clear c23
    try clear c25
    try clear c26
    try clear c27
    try clear c29
    try clear c30
    try clear c33
    try clear c34
    try clear c35
    try clear c36
    try clear c38
    try clear c39
    try clear c41
    try clear c43
    try clear c44
    try clear c45
    try clear c47
    try clear c48
    try clear hcz14_0
    try clear hcz14_1
    try clear hcz14_2
    try clear hcz14_3
    try clear hcz14_4
    try clear hcz14_5
    try clear hcz19_0
    try clear hcz19_1
    try clear hcz19_2
    try clear hcz19_3
    try clear hcz19_4
    try clear hcz19_5
    try clear hcz22_0
    try clear hcz22_1
    try clear hcz22_2
    try clear hcz22_3
    try clear hcz22_4
    try clear hcz22_5
    try clear hcz24_0
    try clear hcz24_1
    try clear hcz24_2
    try clear hcz24_3
    try clear hcz24_4
    try clear hcz24_5
    try clear hcz28_0
    try clear hcz28_1
    try clear hcz28_2
    try clear hcz28_3
    try clear hcz28_4
    try clear hcz28_5
    try clear hcz31_0
    try clear hcz31_1
    try clear hcz31_2
    try clear hcz31_3
    try clear hcz31_4
    try clear hcz31_5
    try clear hcz37_0
    try clear hcz37_1
    try clear hcz37_2
    try clear hcz37_3
    try clear hcz37_4
    try clear hcz37_5
    try clear hcz40_0
    try clear hcz40_1
    try clear hcz40_2
    try clear hcz40_3
    try clear hcz40_4
    try clear hcz40_5
    try clear hcz42_0
    try clear hcz42_1
    try clear hcz42_2
    try clear hcz42_3
    try clear hcz42_4
    try clear hcz42_5
    try clear hcz46_0
    try clear hcz46_1
    try clear hcz46_2
    try clear hcz46_3
    try clear hcz46_4
    try clear hcz46_5
    try clear hcz49_0
    try clear hcz49_1
    try clear hcz49_2
    try clear hcz49_3
    try clear hcz49_4
    try clear hcz49_5
    try clear hcz9_0
    try clear hcz9_1
    try clear hcz9_2
    try clear hcz9_3
    try clear hcz9_4
    try clear hcz9_5
    try clear hfz14_0
    try clear hfz14_1
    try clear hfz14_2
    try clear hfz14_3
    try clear hfz14_4
    try clear hfz14_5
    try clear hfz19_0
    try clear hfz19_1
    try clear hfz19_2
    try clear hfz19_3
    try clear hfz19_4
    try clear hfz19_5
    try clear hfz22_0
    try clear hfz22_1
    try clear hfz22_2
    try clear hfz22_3
    try clear hfz22_4
    try clear hfz22_5
    try clear hfz24_0
    try clear hfz24_1
    try clear hfz24_2
    try clear hfz24_3
    try clear hfz24_4
    try clear hfz24_5
    try clear hfz28_0
    try clear hfz28_1
    try clear hfz28_2
    try clear hfz28_3
    try clear hfz28_4
    try clear hfz28_5
    try clear hfz31_0
    try clear hfz31_1
    try clear hfz31_2
    try clear hfz31_3
    try clear hfz31_4
    try clear hfz31_5
    try clear hfz37_0
    try clear hfz37_1
    try clear hfz37_2
    try clear hfz37_3
    try clear hfz37_4
    try clear hfz37_5
    try clear hfz40_0
    try clear hfz40_1
    try clear hfz40_2
    try clear hfz40_3
    try clear hfz40_4
    try clear hfz40_5
    try clear hfz42_0
    try clear hfz42_1
    try clear hfz42_2
    try clear hfz42_3
    try clear hfz42_4
    try clear hfz42_5
    try clear hfz46_0
    try clear hfz46_1
    try clear hfz46_2
    try clear hfz46_3
    try clear hfz46_4
    try clear hfz46_5
    try clear hfz49_0
    try clear hfz49_1
    try clear hfz49_2
    try clear hfz49_3
    try clear hfz49_4
    try clear hfz49_5
    try clear hfz9_0
    try clear hfz9_1
    try clear hfz9_2
    try clear hfz9_3
    try clear hfz9_4
    try clear hfz9_5
    try clear p2
    obtain ⟨kq, x175001_31, HA, HJ31, BK171, BK172, BK173, BK174, HB⟩ := hcut
    cases kq with
    | zero => exact absurd HA.out (by simp [squelchref08_Agree.j1])
    | succ kj31 =>
     have H := HA.out
     clear HA
     simp only [squelchref08_Agree.j1] at H
     have HC50 := Aside0.mk H
     clear H
     have hnb51 := NB172_171.out
     have hnc51 := NB171_172.out
     have hnb52 := NB172_173.out
     have hnc52 := NB173_172.out
     have hnb53 := NB172_174.out
     have hnc53 := NB174_172.out
     have hcz54_0 : wc.cell? ⟨gb172, 0, none⟩ = some (.bool a1_0) := (blk_cell BK172.out 0).trans rfl
     have hcz54_1 : wc.cell? ⟨gb172, 1, none⟩ = some (.bool a1_1) := (blk_cell BK172.out 1).trans rfl
     have hcz54_2 : wc.cell? ⟨gb172, 2, none⟩ = some (.int .i64 a1_2) := (blk_cell BK172.out 2).trans rfl
     have hcz54_3 : wc.cell? ⟨gb172, 3, none⟩ = some (.int .i64 a1_3) := (blk_cell BK172.out 3).trans rfl
     have hcz54_4 : wc.cell? ⟨gb172, 4, none⟩ = some (.int .i64 a1_4) := (blk_cell BK172.out 4).trans rfl
     have hcz54_5 : wc.cell? ⟨gb172, 5, none⟩ = some (.int .i64 a1_5) := (blk_cell BK172.out 5).trans rfl
     have hfz54_0 := blk_frozen BK172.out 0
     have hfz54_1 := blk_frozen BK172.out 1
     have hfz54_2 := blk_frozen BK172.out 2
     have hfz54_3 := blk_frozen BK172.out 3
     have hfz54_4 := blk_frozen BK172.out 4
     have hfz54_5 := blk_frozen BK172.out 5
     have hnb55 := NB174_171.out
     have hnc55 := NB171_174.out
     have hnb56 := NB174_173.out
     have hnc56 := NB173_174.out
     have hcz57_0 : wc.cell? ⟨gb174, 0, none⟩ = some (.bool x175000_2) := (blk_cell BK174.out 0).trans rfl
     have hcz57_1 : wc.cell? ⟨gb174, 1, none⟩ = some (.bool x175001_31) := (blk_cell BK174.out 1).trans rfl
     have hcz57_2 : wc.cell? ⟨gb174, 2, none⟩ = some (.int .i64 a0_2) := (blk_cell BK174.out 2).trans rfl
     have hcz57_3 : wc.cell? ⟨gb174, 3, none⟩ = some (.int .i64 a0_3) := (blk_cell BK174.out 3).trans rfl
     have hcz57_4 : wc.cell? ⟨gb174, 4, none⟩ = some (.int .i64 a0_4) := (blk_cell BK174.out 4).trans rfl
     have hcz57_5 : wc.cell? ⟨gb174, 5, none⟩ = some (.int .i64 a0_5) := (blk_cell BK174.out 5).trans rfl
     have hfz57_0 := blk_frozen BK174.out 0
     have hfz57_1 := blk_frozen BK174.out 1
     have hfz57_2 := blk_frozen BK174.out 2
     have hfz57_3 := blk_frozen BK174.out 3
     have hfz57_4 := blk_frozen BK174.out 4
     have hfz57_5 := blk_frozen BK174.out 5
     go_upto_if 26 with (fail)
     go_cut [] (fun wc => ∃ (kq : Nat) (x175002_49 : Int), Aside0 (squelchref08_Agree.j2 kq a1_0 a1_1 a1_2 a1_3 a1_4 a1_5 x175000_2 x175001_31 x175002_49 a0_3 a0_4 a0_5 = some (r1, r2, r3, r4, r5, r6)) ∧ Aside0 (kq ≤ kj31) ∧ Aside0 (wc.heap[gb171]? = some (.cells #[.bool a0_0, .bool a0_1, .int .i64 a0_2, .int .i64 a0_3, .int .i64 a0_4, .int .i64 a0_5] 29 (0, 0))) ∧ Aside0 (wc.heap[gb172]? = some (.cells #[.bool a1_0, .bool a1_1, .int .i64 a1_2, .int .i64 a1_3, .int .i64 a1_4, .int .i64 a1_5] 29 (0, 0))) ∧ Aside0 (wc.heap[gb173]? = some (.cells #[.bool false, .bool false, .int .i64 0, .int .i64 0, .int .i64 0, .int .i64 0] 29 (0, 0))) ∧ Aside0 (wc.heap[gb174]? = some (.cells #[.bool x175000_2, .bool x175001_31, .int .i64 x175002_49, .int .i64 a0_3, .int .i64 a0_4, .int .i64 a0_5] 29 (0, 0))) ∧ Aside0 (Below w.heap.size w wc))
     case first =>
      have H := HC50.out
      clear HC50
      by_cases c58 : a1_2 < a0_2
      ·rw [if_pos c58] at H
       have c58b0 : decide (a1_2 < a0_2) = true := decide_eq_true c58
       clear c58
       (first | rw [c58b0] | (simp only [i64_w, i32_w]; rw [c58b0]) | skip)
       have H' := Aside0.mk H
       clear H
       have hnb59 := NB172_171.out
       have hnc59 := NB171_172.out
       have hnb60 := NB172_173.out
       have hnc60 := NB173_172.out
       have hnb61 := NB172_174.out
       have hnc61 := NB174_172.out
       have hcz62_0 : wc.cell? ⟨gb172, 0, none⟩ = some (.bool a1_0) := (blk_cell BK172.out 0).trans rfl
       have hcz62_1 : wc.cell? ⟨gb172, 1, none⟩ = some (.bool a1_1) := (blk_cell BK172.out 1).trans rfl
       have hcz62_2 : wc.cell? ⟨gb172, 2, none⟩ = some (.int .i64 a1_2) := (blk_cell BK172.out 2).trans rfl
       have hcz62_3 : wc.cell? ⟨gb172, 3, none⟩ = some (.int .i64 a1_3) := (blk_cell BK172.out 3).trans rfl
       have hcz62_4 : wc.cell? ⟨gb172, 4, none⟩ = some (.int .i64 a1_4) := (blk_cell BK172.out 4).trans rfl
       have hcz62_5 : wc.cell? ⟨gb172, 5, none⟩ = some (.int .i64 a1_5) := (blk_cell BK172.out 5).trans rfl
       have hfz62_0 := blk_frozen BK172.out 0
       have hfz62_1 := blk_frozen BK172.out 1
       have hfz62_2 := blk_frozen BK172.out 2
       have hfz62_3 := blk_frozen BK172.out 3
       have hfz62_4 := blk_frozen BK172.out 4
       have hfz62_5 := blk_frozen BK172.out 5
       have hnb63 := NB174_171.out
       have hnc63 := NB171_174.out
       have hnb64 := NB174_173.out
       have hnc64 := NB173_174.out
       have hcz65_0 : wc.cell? ⟨gb174, 0, none⟩ = some (.bool x175000_2) := (blk_cell BK174.out 0).trans rfl
       have hcz65_1 : wc.cell? ⟨gb174, 1, none⟩ = some (.bool x175001_31) := (blk_cell BK174.out 1).trans rfl
       have hcz65_2 : wc.cell? ⟨gb174, 2, none⟩ = some (.int .i64 a0_2) := (blk_cell BK174.out 2).trans rfl
       have hcz65_3 : wc.cell? ⟨gb174, 3, none⟩ = some (.int .i64 a0_3) := (blk_cell BK174.out 3).trans rfl
       have hcz65_4 : wc.cell? ⟨gb174, 4, none⟩ = some (.int .i64 a0_4) := (blk_cell BK174.out 4).trans rfl
       have hcz65_5 : wc.cell? ⟨gb174, 5, none⟩ = some (.int .i64 a0_5) := (blk_cell BK174.out 5).trans rfl
       have hfz65_0 := blk_frozen BK174.out 0
       have hfz65_1 := blk_frozen BK174.out 1
       have hfz65_2 := blk_frozen BK174.out 2
       have hfz65_3 := blk_frozen BK174.out 3
       have hfz65_4 := blk_frozen BK174.out 4
       have hfz65_5 := blk_frozen BK174.out 5
       go_wp2
       go_meet
       case rel => exact ⟨_, (a1_2), H', ⟨by have := HJ2.out; have := HJ31.out; first | omega | exact Nat.le_refl _⟩, ⟨by (with_reducible repeat (first | refine blk_drewN ?_ _ | refine blk_drew ?_ | refine blk_alloc ?_ _)); refine blk_far ?_ NB171_174.out _; (with_reducible repeat (first | refine blk_drewN ?_ _ | refine blk_drew ?_ | refine blk_alloc ?_ _)); exact BK171.out⟩, ⟨by (with_reducible repeat (first | refine blk_drewN ?_ _ | refine blk_drew ?_ | refine blk_alloc ?_ _)); refine blk_far ?_ NB172_174.out _; (with_reducible repeat (first | refine blk_drewN ?_ _ | refine blk_drew ?_ | refine blk_alloc ?_ _)); exact BK172.out⟩, ⟨by (with_reducible repeat (first | refine blk_drewN ?_ _ | refine blk_drew ?_ | refine blk_alloc ?_ _)); refine blk_far ?_ NB173_174.out _; (with_reducible repeat (first | refine blk_drewN ?_ _ | refine blk_drew ?_ | refine blk_alloc ?_ _)); exact BK173.out⟩, ⟨by (with_reducible repeat (first | refine blk_drewN ?_ _ | refine blk_drew ?_ | refine blk_alloc ?_ _)); refine blk_put (cs := #[.bool x175000_2, .bool x175001_31, .int .i64 a0_2, .int .i64 a0_3, .int .i64 a0_4, .int .i64 a0_5]) ?_ 2 _ rfl; (with_reducible repeat (first | refine blk_drewN ?_ _ | refine blk_drew ?_ | refine blk_alloc ?_ _)); exact BK174.out⟩, ⟨by repeat (first | (with_reducible first | exact HB.out | apply below_alloc | apply pw_below_drewN | apply below_drew1 | refine below_set ?_ GE171.out | refine below_set ?_ GE172.out | refine below_set ?_ GE173.out | refine below_set ?_ GE174.out) | exact HB.out)⟩⟩
      ·rw [if_neg c58] at H
       have c58b0 : decide (a1_2 < a0_2) = false := decide_eq_false c58
       clear c58
       (first | rw [c58b0] | (simp only [i64_w, i32_w]; rw [c58b0]) | skip)
       have H' := Aside0.mk H
       clear H
       go_wp2
       go_meet
       case rel => exact ⟨_, (a0_2), H', ⟨by have := HJ2.out; have := HJ31.out; first | omega | exact Nat.le_refl _⟩, ⟨by (with_reducible repeat (first | refine blk_drewN ?_ _ | refine blk_drew ?_ | refine blk_alloc ?_ _)); exact BK171.out⟩, ⟨by (with_reducible repeat (first | refine blk_drewN ?_ _ | refine blk_drew ?_ | refine blk_alloc ?_ _)); exact BK172.out⟩, ⟨by (with_reducible repeat (first | refine blk_drewN ?_ _ | refine blk_drew ?_ | refine blk_alloc ?_ _)); exact BK173.out⟩, ⟨by (with_reducible repeat (first | refine blk_drewN ?_ _ | refine blk_drew ?_ | refine blk_alloc ?_ _)); exact BK174.out⟩, ⟨by repeat (first | (with_reducible first | exact HB.out | apply below_alloc | apply pw_below_drewN | apply below_drew1 | refine below_set ?_ GE171.out | refine below_set ?_ GE172.out | refine below_set ?_ GE173.out | refine below_set ?_ GE174.out) | exact HB.out)⟩⟩
     case rest =>
      clear HC50
      try clear c1
      try clear c2
      try clear p2
      try clear c3
      try clear c4
      try clear c5
      try clear c6
      try clear c7
      try clear c8
      try clear c11
      try clear c12
      try clear c13
      try clear c15
      try clear c16
      try clear c17
      try clear c18
      try clear c20
      try clear c21
      try clear c23
      try clear c25
      try clear c26
      try clear c27
      try clear c29
      try clear c30
      try clear c33
      try clear c34
      try clear c35
      try clear c36
      try clear c38
      try clear c39
      try clear c41
      try clear c43
      try clear c44
      try clear c45
      try clear c47
      try clear c48
      try clear c51
      try clear c52
      try clear c53
      try clear c55
      try clear c56
      try clear c58
      try clear c58b0
      try clear c59
      try clear c60
      try clear c61
      try clear c63
      try clear c64
      try clear hcz14_0
      try clear hcz14_1
      try clear hcz14_2
      try clear hcz14_3
      try clear hcz14_4
      try clear hcz14_5
      try clear hcz19_0
      try clear hcz19_1
      try clear hcz19_2
      try clear hcz19_3
      try clear hcz19_4
      try clear hcz19_5
      try clear hcz22_0
      try clear hcz22_1
      try clear hcz22_2
      try clear hcz22_3
      try clear hcz22_4
      try clear hcz22_5
      try clear hcz24_0
      try clear hcz24_1
      try clear hcz24_2
      try clear hcz24_3
      try clear hcz24_4
      try clear hcz24_5
      try clear hcz28_0
      try clear hcz28_1
      try clear hcz28_2
      try clear hcz28_3
      try clear hcz28_4
      try clear hcz28_5
      try clear hcz31_0
      try clear hcz31_1
      try clear hcz31_2
      try clear hcz31_3
      try clear hcz31_4
      try clear hcz31_5
      try clear hcz37_0
      try clear hcz37_1
      try clear hcz37_2
      try clear hcz37_3
      try clear hcz37_4
      try clear hcz37_5
      try clear hcz40_0
      try clear hcz40_1
      try clear hcz40_2
      try clear hcz40_3
      try clear hcz40_4
      try clear hcz40_5
      try clear hcz42_0
      try clear hcz42_1
      try clear hcz42_2
      try clear hcz42_3
      try clear hcz42_4
      try clear hcz42_5
      try clear hcz46_0
      try clear hcz46_1
      try clear hcz46_2
      try clear hcz46_3
      try clear hcz46_4
      try clear hcz46_5
      try clear hcz49_0
      try clear hcz49_1
      try clear hcz49_2
      try clear hcz49_3
      try clear hcz49_4
      try clear hcz49_5
      try clear hcz54_0
      try clear hcz54_1
      try clear hcz54_2
      try clear hcz54_3
      try clear hcz54_4
      try clear hcz54_5
      try clear hcz57_0
      try clear hcz57_1
      try clear hcz57_2
      try clear hcz57_3
      try clear hcz57_4
      try clear hcz57_5
      try clear hcz62_0
      try clear hcz62_1
      try clear hcz62_2
      try clear hcz62_3
      try clear hcz62_4
      try clear hcz62_5
      try clear hcz65_0
      try clear hcz65_1
      try clear hcz65_2
      try clear hcz65_3
      try clear hcz65_4
      try clear hcz65_5
      try clear hcz9_0
      try clear hcz9_1
      try clear hcz9_2
      try clear hcz9_3
      try clear hcz9_4
      try clear hcz9_5
      try clear hfz14_0
      try clear hfz14_1
      try clear hfz14_2
      try clear hfz14_3
      try clear hfz14_4
      try clear hfz14_5
      try clear hfz19_0
      try clear hfz19_1
      try clear hfz19_2
      try clear hfz19_3
      try clear hfz19_4
      try clear hfz19_5
      try clear hfz22_0
      try clear hfz22_1
      try clear hfz22_2
      try clear hfz22_3
      try clear hfz22_4
      try clear hfz22_5
      try clear hfz24_0
      try clear hfz24_1
      try clear hfz24_2
      try clear hfz24_3
      try clear hfz24_4
      try clear hfz24_5
      try clear hfz28_0
      try clear hfz28_1
      try clear hfz28_2
      try clear hfz28_3
      try clear hfz28_4
      try clear hfz28_5
      try clear hfz31_0
      try clear hfz31_1
      try clear hfz31_2
      try clear hfz31_3
      try clear hfz31_4
      try clear hfz31_5
      try clear hfz37_0
      try clear hfz37_1
      try clear hfz37_2
      try clear hfz37_3
      try clear hfz37_4
      try clear hfz37_5
      try clear hfz40_0
      try clear hfz40_1
      try clear hfz40_2
      try clear hfz40_3
      try clear hfz40_4
      try clear hfz40_5
      try clear hfz42_0
      try clear hfz42_1
      try clear hfz42_2
      try clear hfz42_3
      try clear hfz42_4
      try clear hfz42_5
      try clear hfz46_0
      try clear hfz46_1
      try clear hfz46_2
      try clear hfz46_3
      try clear hfz46_4
      try clear hfz46_5
      try clear hfz49_0
      try clear hfz49_1
      try clear hfz49_2
      try clear hfz49_3
      try clear hfz49_4
      try clear hfz49_5
      try clear hfz54_0
      try clear hfz54_1
      try clear hfz54_2
      try clear hfz54_3
      try clear hfz54_4
      try clear hfz54_5
      try clear hfz57_0
      try clear hfz57_1
      try clear hfz57_2
      try clear hfz57_3
      try clear hfz57_4
      try clear hfz57_5
      try clear hfz62_0
      try clear hfz62_1
      try clear hfz62_2
      try clear hfz62_3
      try clear hfz62_4
      try clear hfz62_5
      try clear hfz65_0
      try clear hfz65_1
      try clear hfz65_2
      try clear hfz65_3
      try clear hfz65_4
      try clear hfz65_5
      try clear hfz9_0
      try clear hfz9_1
      try clear hfz9_2
      try clear hfz9_3
      try clear hfz9_4
      try clear hfz9_5
      try clear p2
      obtain ⟨kq, x175002_49, HA, HJ49, BK171, BK172, BK173, BK174, HB⟩ := hcut
      cases kq with
      | zero => exact absurd HA.out (by simp [squelchref08_Agree.j2])
      | succ kj49 =>
       have H := HA.out
       clear HA
       simp only [squelchref08_Agree.j2] at H
       have HC66 := Aside0.mk H
       clear H
       have hnb67 := NB172_171.out
       have hnc67 := NB171_172.out
       have hnb68 := NB172_173.out
       have hnc68 := NB173_172.out
       have hnb69 := NB172_174.out
       have hnc69 := NB174_172.out
       have hcz70_0 : wc.cell? ⟨gb172, 0, none⟩ = some (.bool a1_0) := (blk_cell BK172.out 0).trans rfl
       have hcz70_1 : wc.cell? ⟨gb172, 1, none⟩ = some (.bool a1_1) := (blk_cell BK172.out 1).trans rfl
       have hcz70_2 : wc.cell? ⟨gb172, 2, none⟩ = some (.int .i64 a1_2) := (blk_cell BK172.out 2).trans rfl
       have hcz70_3 : wc.cell? ⟨gb172, 3, none⟩ = some (.int .i64 a1_3) := (blk_cell BK172.out 3).trans rfl
       have hcz70_4 : wc.cell? ⟨gb172, 4, none⟩ = some (.int .i64 a1_4) := (blk_cell BK172.out 4).trans rfl
       have hcz70_5 : wc.cell? ⟨gb172, 5, none⟩ = some (.int .i64 a1_5) := (blk_cell BK172.out 5).trans rfl
       have hfz70_0 := blk_frozen BK172.out 0
       have hfz70_1 := blk_frozen BK172.out 1
       have hfz70_2 := blk_frozen BK172.out 2
       have hfz70_3 := blk_frozen BK172.out 3
       have hfz70_4 := blk_frozen BK172.out 4
       have hfz70_5 := blk_frozen BK172.out 5
       have hnb71 := NB174_171.out
       have hnc71 := NB171_174.out
       have hnb72 := NB174_173.out
       have hnc72 := NB173_174.out
       have hcz73_0 : wc.cell? ⟨gb174, 0, none⟩ = some (.bool x175000_2) := (blk_cell BK174.out 0).trans rfl
       have hcz73_1 : wc.cell? ⟨gb174, 1, none⟩ = some (.bool x175001_31) := (blk_cell BK174.out 1).trans rfl
       have hcz73_2 : wc.cell? ⟨gb174, 2, none⟩ = some (.int .i64 x175002_49) := (blk_cell BK174.out 2).trans rfl
       have hcz73_3 : wc.cell? ⟨gb174, 3, none⟩ = some (.int .i64 a0_3) := (blk_cell BK174.out 3).trans rfl
       have hcz73_4 : wc.cell? ⟨gb174, 4, none⟩ = some (.int .i64 a0_4) := (blk_cell BK174.out 4).trans rfl
       have hcz73_5 : wc.cell? ⟨gb174, 5, none⟩ = some (.int .i64 a0_5) := (blk_cell BK174.out 5).trans rfl
       have hfz73_0 := blk_frozen BK174.out 0
       have hfz73_1 := blk_frozen BK174.out 1
       have hfz73_2 := blk_frozen BK174.out 2
       have hfz73_3 := blk_frozen BK174.out 3
       have hfz73_4 := blk_frozen BK174.out 4
       have hfz73_5 := blk_frozen BK174.out 5
       go_upto_if 34 with (fail)
       go_cut [] (fun wc => ∃ (kq : Nat) (x175003_65 : Int), Aside0 (squelchref08_Agree.j3 kq a1_0 a1_1 a1_2 a1_3 a1_4 a1_5 x175000_2 x175001_31 x175002_49 x175003_65 a0_4 a0_5 = some (r1, r2, r3, r4, r5, r6)) ∧ Aside0 (kq ≤ kj49) ∧ Aside0 (wc.heap[gb171]? = some (.cells #[.bool a0_0, .bool a0_1, .int .i64 a0_2, .int .i64 a0_3, .int .i64 a0_4, .int .i64 a0_5] 29 (0, 0))) ∧ Aside0 (wc.heap[gb172]? = some (.cells #[.bool a1_0, .bool a1_1, .int .i64 a1_2, .int .i64 a1_3, .int .i64 a1_4, .int .i64 a1_5] 29 (0, 0))) ∧ Aside0 (wc.heap[gb173]? = some (.cells #[.bool false, .bool false, .int .i64 0, .int .i64 0, .int .i64 0, .int .i64 0] 29 (0, 0))) ∧ Aside0 (wc.heap[gb174]? = some (.cells #[.bool x175000_2, .bool x175001_31, .int .i64 x175002_49, .int .i64 x175003_65, .int .i64 a0_4, .int .i64 a0_5] 29 (0, 0))) ∧ Aside0 (Below w.heap.size w wc))
       case first =>
        have H := HC66.out
        clear HC66
        by_cases c74 : a1_3 < a0_3
        ·rw [if_pos c74] at H
         have c74b0 : decide (a1_3 < a0_3) = true := decide_eq_true c74
         clear c74
         (first | rw [c74b0] | (simp only [i64_w, i32_w]; rw [c74b0]) | skip)
         have H' := Aside0.mk H
         clear H
         have hnb75 := NB172_171.out
         have hnc75 := NB171_172.out
         have hnb76 := NB172_173.out
         have hnc76 := NB173_172.out
         have hnb77 := NB172_174.out
         have hnc77 := NB174_172.out
         have hcz78_0 : wc.cell? ⟨gb172, 0, none⟩ = some (.bool a1_0) := (blk_cell BK172.out 0).trans rfl
         have hcz78_1 : wc.cell? ⟨gb172, 1, none⟩ = some (.bool a1_1) := (blk_cell BK172.out 1).trans rfl
         have hcz78_2 : wc.cell? ⟨gb172, 2, none⟩ = some (.int .i64 a1_2) := (blk_cell BK172.out 2).trans rfl
         have hcz78_3 : wc.cell? ⟨gb172, 3, none⟩ = some (.int .i64 a1_3) := (blk_cell BK172.out 3).trans rfl
         have hcz78_4 : wc.cell? ⟨gb172, 4, none⟩ = some (.int .i64 a1_4) := (blk_cell BK172.out 4).trans rfl
         have hcz78_5 : wc.cell? ⟨gb172, 5, none⟩ = some (.int .i64 a1_5) := (blk_cell BK172.out 5).trans rfl
         have hfz78_0 := blk_frozen BK172.out 0
         have hfz78_1 := blk_frozen BK172.out 1
         have hfz78_2 := blk_frozen BK172.out 2
         have hfz78_3 := blk_frozen BK172.out 3
         have hfz78_4 := blk_frozen BK172.out 4
         have hfz78_5 := blk_frozen BK172.out 5
         have hnb79 := NB174_171.out
         have hnc79 := NB171_174.out
         have hnb80 := NB174_173.out
         have hnc80 := NB173_174.out
         have hcz81_0 : wc.cell? ⟨gb174, 0, none⟩ = some (.bool x175000_2) := (blk_cell BK174.out 0).trans rfl
         have hcz81_1 : wc.cell? ⟨gb174, 1, none⟩ = some (.bool x175001_31) := (blk_cell BK174.out 1).trans rfl
         have hcz81_2 : wc.cell? ⟨gb174, 2, none⟩ = some (.int .i64 x175002_49) := (blk_cell BK174.out 2).trans rfl
         have hcz81_3 : wc.cell? ⟨gb174, 3, none⟩ = some (.int .i64 a0_3) := (blk_cell BK174.out 3).trans rfl
         have hcz81_4 : wc.cell? ⟨gb174, 4, none⟩ = some (.int .i64 a0_4) := (blk_cell BK174.out 4).trans rfl
         have hcz81_5 : wc.cell? ⟨gb174, 5, none⟩ = some (.int .i64 a0_5) := (blk_cell BK174.out 5).trans rfl
         have hfz81_0 := blk_frozen BK174.out 0
         have hfz81_1 := blk_frozen BK174.out 1
         have hfz81_2 := blk_frozen BK174.out 2
         have hfz81_3 := blk_frozen BK174.out 3
         have hfz81_4 := blk_frozen BK174.out 4
         have hfz81_5 := blk_frozen BK174.out 5
         go_wp2
         go_meet
         case rel => exact ⟨_, (a1_3), H', ⟨by have := HJ2.out; have := HJ31.out; have := HJ49.out; first | omega | exact Nat.le_refl _⟩, ⟨by (with_reducible repeat (first | refine blk_drewN ?_ _ | refine blk_drew ?_ | refine blk_alloc ?_ _)); refine blk_far ?_ NB171_174.out _; (with_reducible repeat (first | refine blk_drewN ?_ _ | refine blk_drew ?_ | refine blk_alloc ?_ _)); exact BK171.out⟩, ⟨by (with_reducible repeat (first | refine blk_drewN ?_ _ | refine blk_drew ?_ | refine blk_alloc ?_ _)); refine blk_far ?_ NB172_174.out _; (with_reducible repeat (first | refine blk_drewN ?_ _ | refine blk_drew ?_ | refine blk_alloc ?_ _)); exact BK172.out⟩, ⟨by (with_reducible repeat (first | refine blk_drewN ?_ _ | refine blk_drew ?_ | refine blk_alloc ?_ _)); refine blk_far ?_ NB173_174.out _; (with_reducible repeat (first | refine blk_drewN ?_ _ | refine blk_drew ?_ | refine blk_alloc ?_ _)); exact BK173.out⟩, ⟨by (with_reducible repeat (first | refine blk_drewN ?_ _ | refine blk_drew ?_ | refine blk_alloc ?_ _)); refine blk_put (cs := #[.bool x175000_2, .bool x175001_31, .int .i64 x175002_49, .int .i64 a0_3, .int .i64 a0_4, .int .i64 a0_5]) ?_ 3 _ rfl; (with_reducible repeat (first | refine blk_drewN ?_ _ | refine blk_drew ?_ | refine blk_alloc ?_ _)); exact BK174.out⟩, ⟨by repeat (first | (with_reducible first | exact HB.out | apply below_alloc | apply pw_below_drewN | apply below_drew1 | refine below_set ?_ GE171.out | refine below_set ?_ GE172.out | refine below_set ?_ GE173.out | refine below_set ?_ GE174.out) | exact HB.out)⟩⟩
        ·rw [if_neg c74] at H
         have c74b0 : decide (a1_3 < a0_3) = false := decide_eq_false c74
         clear c74
         (first | rw [c74b0] | (simp only [i64_w, i32_w]; rw [c74b0]) | skip)
         have H' := Aside0.mk H
         clear H
         go_wp2
         go_meet
         case rel => exact ⟨_, (a0_3), H', ⟨by have := HJ2.out; have := HJ31.out; have := HJ49.out; first | omega | exact Nat.le_refl _⟩, ⟨by (with_reducible repeat (first | refine blk_drewN ?_ _ | refine blk_drew ?_ | refine blk_alloc ?_ _)); exact BK171.out⟩, ⟨by (with_reducible repeat (first | refine blk_drewN ?_ _ | refine blk_drew ?_ | refine blk_alloc ?_ _)); exact BK172.out⟩, ⟨by (with_reducible repeat (first | refine blk_drewN ?_ _ | refine blk_drew ?_ | refine blk_alloc ?_ _)); exact BK173.out⟩, ⟨by (with_reducible repeat (first | refine blk_drewN ?_ _ | refine blk_drew ?_ | refine blk_alloc ?_ _)); exact BK174.out⟩, ⟨by repeat (first | (with_reducible first | exact HB.out | apply below_alloc | apply pw_below_drewN | apply below_drew1 | refine below_set ?_ GE171.out | refine below_set ?_ GE172.out | refine below_set ?_ GE173.out | refine below_set ?_ GE174.out) | exact HB.out)⟩⟩
       case rest =>
        clear HC66
        try clear c1
        try clear c2
        try clear p2
        try clear c3
        try clear c4
        try clear c5
        try clear c6
        try clear c7
        try clear c8
        try clear c11
        try clear c12
        try clear c13
        try clear c15
        try clear c16
        try clear c17
        try clear c18
        try clear c20
        try clear c21
        try clear c23
        try clear c25
        try clear c26
        try clear c27
        try clear c29
        try clear c30
        try clear c33
        try clear c34
        try clear c35
        try clear c36
        try clear c38
        try clear c39
        try clear c41
        try clear c43
        try clear c44
        try clear c45
        try clear c47
        try clear c48
        try clear c51
        try clear c52
        try clear c53
        try clear c55
        try clear c56
        try clear c58
        try clear c58b0
        try clear c59
        try clear c60
        try clear c61
        try clear c63
        try clear c64
        try clear c67
        try clear c68
        try clear c69
        try clear c71
        try clear c72
        try clear c74
        try clear c74b0
        try clear c75
        try clear c76
        try clear c77
        try clear c79
        try clear c80
        try clear hcz14_0
        try clear hcz14_1
        try clear hcz14_2
        try clear hcz14_3
        try clear hcz14_4
        try clear hcz14_5
        try clear hcz19_0
        try clear hcz19_1
        try clear hcz19_2
        try clear hcz19_3
        try clear hcz19_4
        try clear hcz19_5
        try clear hcz22_0
        try clear hcz22_1
        try clear hcz22_2
        try clear hcz22_3
        try clear hcz22_4
        try clear hcz22_5
        try clear hcz24_0
        try clear hcz24_1
        try clear hcz24_2
        try clear hcz24_3
        try clear hcz24_4
        try clear hcz24_5
        try clear hcz28_0
        try clear hcz28_1
        try clear hcz28_2
        try clear hcz28_3
        try clear hcz28_4
        try clear hcz28_5
        try clear hcz31_0
        try clear hcz31_1
        try clear hcz31_2
        try clear hcz31_3
        try clear hcz31_4
        try clear hcz31_5
        try clear hcz37_0
        try clear hcz37_1
        try clear hcz37_2
        try clear hcz37_3
        try clear hcz37_4
        try clear hcz37_5
        try clear hcz40_0
        try clear hcz40_1
        try clear hcz40_2
        try clear hcz40_3
        try clear hcz40_4
        try clear hcz40_5
        try clear hcz42_0
        try clear hcz42_1
        try clear hcz42_2
        try clear hcz42_3
        try clear hcz42_4
        try clear hcz42_5
        try clear hcz46_0
        try clear hcz46_1
        try clear hcz46_2
        try clear hcz46_3
        try clear hcz46_4
        try clear hcz46_5
        try clear hcz49_0
        try clear hcz49_1
        try clear hcz49_2
        try clear hcz49_3
        try clear hcz49_4
        try clear hcz49_5
        try clear hcz54_0
        try clear hcz54_1
        try clear hcz54_2
        try clear hcz54_3
        try clear hcz54_4
        try clear hcz54_5
        try clear hcz57_0
        try clear hcz57_1
        try clear hcz57_2
        try clear hcz57_3
        try clear hcz57_4
        try clear hcz57_5
        try clear hcz62_0
        try clear hcz62_1
        try clear hcz62_2
        try clear hcz62_3
        try clear hcz62_4
        try clear hcz62_5
        try clear hcz65_0
        try clear hcz65_1
        try clear hcz65_2
        try clear hcz65_3
        try clear hcz65_4
        try clear hcz65_5
        try clear hcz70_0
        try clear hcz70_1
        try clear hcz70_2
        try clear hcz70_3
        try clear hcz70_4
        try clear hcz70_5
        try clear hcz73_0
        try clear hcz73_1
        try clear hcz73_2
        try clear hcz73_3
        try clear hcz73_4
        try clear hcz73_5
        try clear hcz78_0
        try clear hcz78_1
        try clear hcz78_2
        try clear hcz78_3
        try clear hcz78_4
        try clear hcz78_5
        try clear hcz81_0
        try clear hcz81_1
        try clear hcz81_2
        try clear hcz81_3
        try clear hcz81_4
        try clear hcz81_5
        try clear hcz9_0
        try clear hcz9_1
        try clear hcz9_2
        try clear hcz9_3
        try clear hcz9_4
        try clear hcz9_5
        try clear hfz14_0
        try clear hfz14_1
        try clear hfz14_2
        try clear hfz14_3
        try clear hfz14_4
        try clear hfz14_5
        try clear hfz19_0
        try clear hfz19_1
        try clear hfz19_2
        try clear hfz19_3
        try clear hfz19_4
        try clear hfz19_5
        try clear hfz22_0
        try clear hfz22_1
        try clear hfz22_2
        try clear hfz22_3
        try clear hfz22_4
        try clear hfz22_5
        try clear hfz24_0
        try clear hfz24_1
        try clear hfz24_2
        try clear hfz24_3
        try clear hfz24_4
        try clear hfz24_5
        try clear hfz28_0
        try clear hfz28_1
        try clear hfz28_2
        try clear hfz28_3
        try clear hfz28_4
        try clear hfz28_5
        try clear hfz31_0
        try clear hfz31_1
        try clear hfz31_2
        try clear hfz31_3
        try clear hfz31_4
        try clear hfz31_5
        try clear hfz37_0
        try clear hfz37_1
        try clear hfz37_2
        try clear hfz37_3
        try clear hfz37_4
        try clear hfz37_5
        try clear hfz40_0
        try clear hfz40_1
        try clear hfz40_2
        try clear hfz40_3
        try clear hfz40_4
        try clear hfz40_5
        try clear hfz42_0
        try clear hfz42_1
        try clear hfz42_2
        try clear hfz42_3
        try clear hfz42_4
        try clear hfz42_5
        try clear hfz46_0
        try clear hfz46_1
        try clear hfz46_2
        try clear hfz46_3
        try clear hfz46_4
        try clear hfz46_5
        try clear hfz49_0
        try clear hfz49_1
        try clear hfz49_2
        try clear hfz49_3
        try clear hfz49_4
        try clear hfz49_5
        try clear hfz54_0
        try clear hfz54_1
        try clear hfz54_2
        try clear hfz54_3
        try clear hfz54_4
        try clear hfz54_5
        try clear hfz57_0
        try clear hfz57_1
        try clear hfz57_2
        try clear hfz57_3
        try clear hfz57_4
        try clear hfz57_5
        try clear hfz62_0
        try clear hfz62_1
        try clear hfz62_2
        try clear hfz62_3
        try clear hfz62_4
        try clear hfz62_5
        try clear hfz65_0
        try clear hfz65_1
        try clear hfz65_2
        try clear hfz65_3
        try clear hfz65_4
        try clear hfz65_5
        try clear hfz70_0
        try clear hfz70_1
        try clear hfz70_2
        try clear hfz70_3
        try clear hfz70_4
        try clear hfz70_5
        try clear hfz73_0
        try clear hfz73_1
        try clear hfz73_2
        try clear hfz73_3
        try clear hfz73_4
        try clear hfz73_5
        try clear hfz78_0
        try clear hfz78_1
        try clear hfz78_2
        try clear hfz78_3
        try clear hfz78_4
        try clear hfz78_5
        try clear hfz81_0
        try clear hfz81_1
        try clear hfz81_2
        try clear hfz81_3
        try clear hfz81_4
        try clear hfz81_5
        try clear hfz9_0
        try clear hfz9_1
        try clear hfz9_2
        try clear hfz9_3
        try clear hfz9_4
        try clear hfz9_5
        try clear p2
        obtain ⟨kq, x175003_65, HA, HJ65, BK171, BK172, BK173, BK174, HB⟩ := hcut
        cases kq with
        | zero => exact absurd HA.out (by simp [squelchref08_Agree.j3])
        | succ kj65 =>
         have H := HA.out
         clear HA
         simp only [squelchref08_Agree.j3] at H
         have HC82 := Aside0.mk H
         clear H
         have hnb83 := NB172_171.out
         have hnc83 := NB171_172.out
         have hnb84 := NB172_173.out
         have hnc84 := NB173_172.out
         have hnb85 := NB172_174.out
         have hnc85 := NB174_172.out
         have hcz86_0 : wc.cell? ⟨gb172, 0, none⟩ = some (.bool a1_0) := (blk_cell BK172.out 0).trans rfl
         have hcz86_1 : wc.cell? ⟨gb172, 1, none⟩ = some (.bool a1_1) := (blk_cell BK172.out 1).trans rfl
         have hcz86_2 : wc.cell? ⟨gb172, 2, none⟩ = some (.int .i64 a1_2) := (blk_cell BK172.out 2).trans rfl
         have hcz86_3 : wc.cell? ⟨gb172, 3, none⟩ = some (.int .i64 a1_3) := (blk_cell BK172.out 3).trans rfl
         have hcz86_4 : wc.cell? ⟨gb172, 4, none⟩ = some (.int .i64 a1_4) := (blk_cell BK172.out 4).trans rfl
         have hcz86_5 : wc.cell? ⟨gb172, 5, none⟩ = some (.int .i64 a1_5) := (blk_cell BK172.out 5).trans rfl
         have hfz86_0 := blk_frozen BK172.out 0
         have hfz86_1 := blk_frozen BK172.out 1
         have hfz86_2 := blk_frozen BK172.out 2
         have hfz86_3 := blk_frozen BK172.out 3
         have hfz86_4 := blk_frozen BK172.out 4
         have hfz86_5 := blk_frozen BK172.out 5
         have hnb87 := NB174_171.out
         have hnc87 := NB171_174.out
         have hnb88 := NB174_173.out
         have hnc88 := NB173_174.out
         have hcz89_0 : wc.cell? ⟨gb174, 0, none⟩ = some (.bool x175000_2) := (blk_cell BK174.out 0).trans rfl
         have hcz89_1 : wc.cell? ⟨gb174, 1, none⟩ = some (.bool x175001_31) := (blk_cell BK174.out 1).trans rfl
         have hcz89_2 : wc.cell? ⟨gb174, 2, none⟩ = some (.int .i64 x175002_49) := (blk_cell BK174.out 2).trans rfl
         have hcz89_3 : wc.cell? ⟨gb174, 3, none⟩ = some (.int .i64 x175003_65) := (blk_cell BK174.out 3).trans rfl
         have hcz89_4 : wc.cell? ⟨gb174, 4, none⟩ = some (.int .i64 a0_4) := (blk_cell BK174.out 4).trans rfl
         have hcz89_5 : wc.cell? ⟨gb174, 5, none⟩ = some (.int .i64 a0_5) := (blk_cell BK174.out 5).trans rfl
         have hfz89_0 := blk_frozen BK174.out 0
         have hfz89_1 := blk_frozen BK174.out 1
         have hfz89_2 := blk_frozen BK174.out 2
         have hfz89_3 := blk_frozen BK174.out 3
         have hfz89_4 := blk_frozen BK174.out 4
         have hfz89_5 := blk_frozen BK174.out 5
         go_upto_if 42 with (fail)
         go_cut [] (fun wc => ∃ (kq : Nat) (x175005_81 : Int), Aside0 (squelchref08_Agree.j4 kq a1_0 a1_1 a1_2 a1_3 a1_4 a1_5 x175000_2 x175001_31 x175002_49 x175003_65 a0_4 x175005_81 = some (r1, r2, r3, r4, r5, r6)) ∧ Aside0 (kq ≤ kj65) ∧ Aside0 (wc.heap[gb171]? = some (.cells #[.bool a0_0, .bool a0_1, .int .i64 a0_2, .int .i64 a0_3, .int .i64 a0_4, .int .i64 a0_5] 29 (0, 0))) ∧ Aside0 (wc.heap[gb172]? = some (.cells #[.bool a1_0, .bool a1_1, .int .i64 a1_2, .int .i64 a1_3, .int .i64 a1_4, .int .i64 a1_5] 29 (0, 0))) ∧ Aside0 (wc.heap[gb173]? = some (.cells #[.bool false, .bool false, .int .i64 0, .int .i64 0, .int .i64 0, .int .i64 0] 29 (0, 0))) ∧ Aside0 (wc.heap[gb174]? = some (.cells #[.bool x175000_2, .bool x175001_31, .int .i64 x175002_49, .int .i64 x175003_65, .int .i64 a0_4, .int .i64 x175005_81] 29 (0, 0))) ∧ Aside0 (Below w.heap.size w wc))
         case first =>
          have H := HC82.out
          clear HC82
          by_cases c90 : a1_5 < a0_5
          ·rw [if_pos c90] at H
           have c90b0 : decide (a1_5 < a0_5) = true := decide_eq_true c90
           clear c90
           (first | rw [c90b0] | (simp only [i64_w, i32_w]; rw [c90b0]) | skip)
           have H' := Aside0.mk H
           clear H
           have hnb91 := NB172_171.out
           have hnc91 := NB171_172.out
           have hnb92 := NB172_173.out
           have hnc92 := NB173_172.out
           have hnb93 := NB172_174.out
           have hnc93 := NB174_172.out
           have hcz94_0 : wc.cell? ⟨gb172, 0, none⟩ = some (.bool a1_0) := (blk_cell BK172.out 0).trans rfl
           have hcz94_1 : wc.cell? ⟨gb172, 1, none⟩ = some (.bool a1_1) := (blk_cell BK172.out 1).trans rfl
           have hcz94_2 : wc.cell? ⟨gb172, 2, none⟩ = some (.int .i64 a1_2) := (blk_cell BK172.out 2).trans rfl
           have hcz94_3 : wc.cell? ⟨gb172, 3, none⟩ = some (.int .i64 a1_3) := (blk_cell BK172.out 3).trans rfl
           have hcz94_4 : wc.cell? ⟨gb172, 4, none⟩ = some (.int .i64 a1_4) := (blk_cell BK172.out 4).trans rfl
           have hcz94_5 : wc.cell? ⟨gb172, 5, none⟩ = some (.int .i64 a1_5) := (blk_cell BK172.out 5).trans rfl
           have hfz94_0 := blk_frozen BK172.out 0
           have hfz94_1 := blk_frozen BK172.out 1
           have hfz94_2 := blk_frozen BK172.out 2
           have hfz94_3 := blk_frozen BK172.out 3
           have hfz94_4 := blk_frozen BK172.out 4
           have hfz94_5 := blk_frozen BK172.out 5
           have hnb95 := NB174_171.out
           have hnc95 := NB171_174.out
           have hnb96 := NB174_173.out
           have hnc96 := NB173_174.out
           have hcz97_0 : wc.cell? ⟨gb174, 0, none⟩ = some (.bool x175000_2) := (blk_cell BK174.out 0).trans rfl
           have hcz97_1 : wc.cell? ⟨gb174, 1, none⟩ = some (.bool x175001_31) := (blk_cell BK174.out 1).trans rfl
           have hcz97_2 : wc.cell? ⟨gb174, 2, none⟩ = some (.int .i64 x175002_49) := (blk_cell BK174.out 2).trans rfl
           have hcz97_3 : wc.cell? ⟨gb174, 3, none⟩ = some (.int .i64 x175003_65) := (blk_cell BK174.out 3).trans rfl
           have hcz97_4 : wc.cell? ⟨gb174, 4, none⟩ = some (.int .i64 a0_4) := (blk_cell BK174.out 4).trans rfl
           have hcz97_5 : wc.cell? ⟨gb174, 5, none⟩ = some (.int .i64 a0_5) := (blk_cell BK174.out 5).trans rfl
           have hfz97_0 := blk_frozen BK174.out 0
           have hfz97_1 := blk_frozen BK174.out 1
           have hfz97_2 := blk_frozen BK174.out 2
           have hfz97_3 := blk_frozen BK174.out 3
           have hfz97_4 := blk_frozen BK174.out 4
           have hfz97_5 := blk_frozen BK174.out 5
           go_wp2
           go_meet
           case rel => exact ⟨_, (a1_5), H', ⟨by have := HJ2.out; have := HJ31.out; have := HJ49.out; have := HJ65.out; first | omega | exact Nat.le_refl _⟩, ⟨by (with_reducible repeat (first | refine blk_drewN ?_ _ | refine blk_drew ?_ | refine blk_alloc ?_ _)); refine blk_far ?_ NB171_174.out _; (with_reducible repeat (first | refine blk_drewN ?_ _ | refine blk_drew ?_ | refine blk_alloc ?_ _)); exact BK171.out⟩, ⟨by (with_reducible repeat (first | refine blk_drewN ?_ _ | refine blk_drew ?_ | refine blk_alloc ?_ _)); refine blk_far ?_ NB172_174.out _; (with_reducible repeat (first | refine blk_drewN ?_ _ | refine blk_drew ?_ | refine blk_alloc ?_ _)); exact BK172.out⟩, ⟨by (with_reducible repeat (first | refine blk_drewN ?_ _ | refine blk_drew ?_ | refine blk_alloc ?_ _)); refine blk_far ?_ NB173_174.out _; (with_reducible repeat (first | refine blk_drewN ?_ _ | refine blk_drew ?_ | refine blk_alloc ?_ _)); exact BK173.out⟩, ⟨by (with_reducible repeat (first | refine blk_drewN ?_ _ | refine blk_drew ?_ | refine blk_alloc ?_ _)); refine blk_put (cs := #[.bool x175000_2, .bool x175001_31, .int .i64 x175002_49, .int .i64 x175003_65, .int .i64 a0_4, .int .i64 a0_5]) ?_ 5 _ rfl; (with_reducible repeat (first | refine blk_drewN ?_ _ | refine blk_drew ?_ | refine blk_alloc ?_ _)); exact BK174.out⟩, ⟨by repeat (first | (with_reducible first | exact HB.out | apply below_alloc | apply pw_below_drewN | apply below_drew1 | refine below_set ?_ GE171.out | refine below_set ?_ GE172.out | refine below_set ?_ GE173.out | refine below_set ?_ GE174.out) | exact HB.out)⟩⟩
          ·rw [if_neg c90] at H
           have c90b0 : decide (a1_5 < a0_5) = false := decide_eq_false c90
           clear c90
           (first | rw [c90b0] | (simp only [i64_w, i32_w]; rw [c90b0]) | skip)
           have H' := Aside0.mk H
           clear H
           go_wp2
           go_meet
           case rel => exact ⟨_, (a0_5), H', ⟨by have := HJ2.out; have := HJ31.out; have := HJ49.out; have := HJ65.out; first | omega | exact Nat.le_refl _⟩, ⟨by (with_reducible repeat (first | refine blk_drewN ?_ _ | refine blk_drew ?_ | refine blk_alloc ?_ _)); exact BK171.out⟩, ⟨by (with_reducible repeat (first | refine blk_drewN ?_ _ | refine blk_drew ?_ | refine blk_alloc ?_ _)); exact BK172.out⟩, ⟨by (with_reducible repeat (first | refine blk_drewN ?_ _ | refine blk_drew ?_ | refine blk_alloc ?_ _)); exact BK173.out⟩, ⟨by (with_reducible repeat (first | refine blk_drewN ?_ _ | refine blk_drew ?_ | refine blk_alloc ?_ _)); exact BK174.out⟩, ⟨by repeat (first | (with_reducible first | exact HB.out | apply below_alloc | apply pw_below_drewN | apply below_drew1 | refine below_set ?_ GE171.out | refine below_set ?_ GE172.out | refine below_set ?_ GE173.out | refine below_set ?_ GE174.out) | exact HB.out)⟩⟩
         case rest =>
          clear HC82
          try clear c1
          try clear c2
          try clear p2
          try clear c3
          try clear c4
          try clear c5
          try clear c6
          try clear c7
          try clear c8
          try clear c9
          try clear c11
          try clear c12
          try clear c13
          try clear c15
          try clear c16
          try clear c17
          try clear c18
          try clear c20
          try clear c21
          try clear c23
          try clear c25
          try clear c26
          try clear c27
          try clear c29
          try clear c30
          try clear c33
          try clear c34
          try clear c35
          try clear c36
          try clear c38
          try clear c39
          try clear c41
          try clear c43
          try clear c44
          try clear c45
          try clear c47
          try clear c48
          try clear c51
          try clear c52
          try clear c53
          try clear c55
          try clear c56
          try clear c58
          try clear c58b0
          try clear c59
          try clear c60
          try clear c61
          try clear c63
          try clear c64
          try clear c67
          try clear c68
          try clear c69
          try clear c71
          try clear c72
          try clear c74
          try clear c74b0
          try clear c75
          try clear c76
          try clear c77
          try clear c79
          try clear c80
          try clear c83
          try clear c84
          try clear c85
          try clear c87
          try clear c88
          try clear c90
          try clear c90b0
          try clear c91
          try clear c92
          try clear c93
          try clear c95
          try clear c96
          try clear hcz14_0
          try clear hcz14_1
          try clear hcz14_2
          try clear hcz14_3
          try clear hcz14_4
          try clear hcz14_5
          try clear hcz19_0
          try clear hcz19_1
          try clear hcz19_2
          try clear hcz19_3
          try clear hcz19_4
          try clear hcz19_5
          try clear hcz22_0
          try clear hcz22_1
          try clear hcz22_2
          try clear hcz22_3
          try clear hcz22_4
          try clear hcz22_5
          try clear hcz24_0
          try clear hcz24_1
          try clear hcz24_2
          try clear hcz24_3
          try clear hcz24_4
          try clear hcz24_5
          try clear hcz28_0
          try clear hcz28_1
          try clear hcz28_2
          try clear hcz28_3
          try clear hcz28_4
          try clear hcz28_5
          try clear hcz31_0
          try clear hcz31_1
          try clear hcz31_2
          try clear hcz31_3
          try clear hcz31_4
          try clear hcz31_5
          try clear hcz37_0
          try clear hcz37_1
          try clear hcz37_2
          try clear hcz37_3
          try clear hcz37_4
          try clear hcz37_5
          try clear hcz40_0
          try clear hcz40_1
          try clear hcz40_2
          try clear hcz40_3
          try clear hcz40_4
          try clear hcz40_5
          try clear hcz42_0
          try clear hcz42_1
          try clear hcz42_2
          try clear hcz42_3
          try clear hcz42_4
          try clear hcz42_5
          try clear hcz46_0
          try clear hcz46_1
          try clear hcz46_2
          try clear hcz46_3
          try clear hcz46_4
          try clear hcz46_5
          try clear hcz49_0
          try clear hcz49_1
          try clear hcz49_2
          try clear hcz49_3
          try clear hcz49_4
          try clear hcz49_5
          try clear hcz54_0
          try clear hcz54_1
          try clear hcz54_2
          try clear hcz54_3
          try clear hcz54_4
          try clear hcz54_5
          try clear hcz57_0
          try clear hcz57_1
          try clear hcz57_2
          try clear hcz57_3
          try clear hcz57_4
          try clear hcz57_5
          try clear hcz62_0
          try clear hcz62_1
          try clear hcz62_2
          try clear hcz62_3
          try clear hcz62_4
          try clear hcz62_5
          try clear hcz65_0
          try clear hcz65_1
          try clear hcz65_2
          try clear hcz65_3
          try clear hcz65_4
          try clear hcz65_5
          try clear hcz70_0
          try clear hcz70_1
          try clear hcz70_2
          try clear hcz70_3
          try clear hcz70_4
          try clear hcz70_5
          try clear hcz73_0
          try clear hcz73_1
          try clear hcz73_2
          try clear hcz73_3
          try clear hcz73_4
          try clear hcz73_5
          try clear hcz78_0
          try clear hcz78_1
          try clear hcz78_2
          try clear hcz78_3
          try clear hcz78_4
          try clear hcz78_5
          try clear hcz81_0
          try clear hcz81_1
          try clear hcz81_2
          try clear hcz81_3
          try clear hcz81_4
          try clear hcz81_5
          try clear hcz86_0
          try clear hcz86_1
          try clear hcz86_2
          try clear hcz86_3
          try clear hcz86_4
          try clear hcz86_5
          try clear hcz89_0
          try clear hcz89_1
          try clear hcz89_2
          try clear hcz89_3
          try clear hcz89_4
          try clear hcz89_5
          try clear hcz94_0
          try clear hcz94_1
          try clear hcz94_2
          try clear hcz94_3
          try clear hcz94_4
          try clear hcz94_5
          try clear hcz97_0
          try clear hcz97_1
          try clear hcz97_2
          try clear hcz97_3
          try clear hcz97_4
          try clear hcz97_5
          try clear hcz9_0
          try clear hcz9_1
          try clear hcz9_2
          try clear hcz9_3
          try clear hcz9_4
          try clear hcz9_5
          try clear hfz14_0
          try clear hfz14_1
          try clear hfz14_2
          try clear hfz14_3
          try clear hfz14_4
          try clear hfz14_5
          try clear hfz19_0
          try clear hfz19_1
          try clear hfz19_2
          try clear hfz19_3
          try clear hfz19_4
          try clear hfz19_5
          try clear hfz22_0
          try clear hfz22_1
          try clear hfz22_2
          try clear hfz22_3
          try clear hfz22_4
          try clear hfz22_5
          try clear hfz24_0
          try clear hfz24_1
          try clear hfz24_2
          try clear hfz24_3
          try clear hfz24_4
          try clear hfz24_5
          try clear hfz28_0
          try clear hfz28_1
          try clear hfz28_2
          try clear hfz28_3
          try clear hfz28_4
          try clear hfz28_5
          try clear hfz31_0
          try clear hfz31_1
          try clear hfz31_2
          try clear hfz31_3
          try clear hfz31_4
          try clear hfz31_5
          try clear hfz37_0
          try clear hfz37_1
          try clear hfz37_2
          try clear hfz37_3
          try clear hfz37_4
          try clear hfz37_5
          try clear hfz40_0
          try clear hfz40_1
          try clear hfz40_2
          try clear hfz40_3
          try clear hfz40_4
          try clear hfz40_5
          try clear hfz42_0
          try clear hfz42_1
          try clear hfz42_2
          try clear hfz42_3
          try clear hfz42_4
          try clear hfz42_5
          try clear hfz46_0
          try clear hfz46_1
          try clear hfz46_2
          try clear hfz46_3
          try clear hfz46_4
          try clear hfz46_5
          try clear hfz49_0
          try clear hfz49_1
          try clear hfz49_2
          try clear hfz49_3
          try clear hfz49_4
          try clear hfz49_5
          try clear hfz54_0
          try clear hfz54_1
          try clear hfz54_2
          try clear hfz54_3
          try clear hfz54_4
          try clear hfz54_5
          try clear hfz57_0
          try clear hfz57_1
          try clear hfz57_2
          try clear hfz57_3
          try clear hfz57_4
          try clear hfz57_5
          try clear hfz62_0
          try clear hfz62_1
          try clear hfz62_2
          try clear hfz62_3
          try clear hfz62_4
          try clear hfz62_5
          try clear hfz65_0
          try clear hfz65_1
          try clear hfz65_2
          try clear hfz65_3
          try clear hfz65_4
          try clear hfz65_5
          try clear hfz70_0
          try clear hfz70_1
          try clear hfz70_2
          try clear hfz70_3
          try clear hfz70_4
          try clear hfz70_5
          try clear hfz73_0
          try clear hfz73_1
          try clear hfz73_2
          try clear hfz73_3
          try clear hfz73_4
          try clear hfz73_5
          try clear hfz78_0
          try clear hfz78_1
          try clear hfz78_2
          try clear hfz78_3
          try clear hfz78_4
          try clear hfz78_5
          try clear hfz81_0
          try clear hfz81_1
          try clear hfz81_2
          try clear hfz81_3
          try clear hfz81_4
          try clear hfz81_5
          try clear hfz86_0
          try clear hfz86_1
          try clear hfz86_2
          try clear hfz86_3
          try clear hfz86_4
          try clear hfz86_5
          try clear hfz89_0
          try clear hfz89_1
          try clear hfz89_2
          try clear hfz89_3
          try clear hfz89_4
          try clear hfz89_5
          try clear hfz94_0
          try clear hfz94_1
          try clear hfz94_2
          try clear hfz94_3
          try clear hfz94_4
          try clear hfz94_5
          try clear hfz97_0
          try clear hfz97_1
          try clear hfz97_2
          try clear hfz97_3
          try clear hfz97_4
          try clear hfz97_5
          try clear hfz9_0
          try clear hfz9_1
          try clear hfz9_2
          try clear hfz9_3
          try clear hfz9_4
          try clear hfz9_5
          try clear p2
          obtain ⟨kq, x175005_81, HA, HJ81, BK171, BK172, BK173, BK174, HB⟩ := hcut
          cases kq with
          | zero => exact absurd HA.out (by simp [squelchref08_Agree.j4])
          | succ kj81 =>
           have H := HA.out
           clear HA
           simp only [squelchref08_Agree.j4] at H
           by_cases c98 : a1_4 > a0_4
           ·rw [if_pos c98] at H
            have c98b0 : decide (a0_4 < a1_4) = true := decide_eq_true c98
            clear c98
            replace H := Option.bind_eq_some_iff.mp H
            obtain ⟨t175, A990, H⟩ := H
            replace H : (if x175003_65 > t175 then (some (x175000_2, x175001_31, x175002_49, t175, a1_4, x175005_81)) else (some (x175000_2, x175001_31, x175002_49, x175003_65, a1_4, x175005_81))) = some (r1, r2, r3, r4, r5, r6) := H
            have A99 := Aside0.mk A990
            clear A990
            by_cases c100 : x175003_65 > t175
            ·rw [if_pos c100] at H
             have c100b0 : decide (t175 < x175003_65) = true := decide_eq_true c100
             clear c100
             simp only [Option.some.injEq, Prod.mk.injEq] at H
             obtain ⟨rfl, rfl, rfl, rfl, rfl, rfl⟩ := H
             have hnb101 := NB172_171.out
             have hnc101 := NB171_172.out
             have hnb102 := NB172_173.out
             have hnc102 := NB173_172.out
             have hnb103 := NB172_174.out
             have hnc103 := NB174_172.out
             have hcz104_0 : wc.cell? ⟨gb172, 0, none⟩ = some (.bool a1_0) := (blk_cell BK172.out 0).trans rfl
             have hcz104_1 : wc.cell? ⟨gb172, 1, none⟩ = some (.bool a1_1) := (blk_cell BK172.out 1).trans rfl
             have hcz104_2 : wc.cell? ⟨gb172, 2, none⟩ = some (.int .i64 a1_2) := (blk_cell BK172.out 2).trans rfl
             have hcz104_3 : wc.cell? ⟨gb172, 3, none⟩ = some (.int .i64 a1_3) := (blk_cell BK172.out 3).trans rfl
             have hcz104_4 : wc.cell? ⟨gb172, 4, none⟩ = some (.int .i64 a1_4) := (blk_cell BK172.out 4).trans rfl
             have hcz104_5 : wc.cell? ⟨gb172, 5, none⟩ = some (.int .i64 a1_5) := (blk_cell BK172.out 5).trans rfl
             have hfz104_0 := blk_frozen BK172.out 0
             have hfz104_1 := blk_frozen BK172.out 1
             have hfz104_2 := blk_frozen BK172.out 2
             have hfz104_3 := blk_frozen BK172.out 3
             have hfz104_4 := blk_frozen BK172.out 4
             have hfz104_5 := blk_frozen BK172.out 5
             have hnb105 := NB174_171.out
             have hnc105 := NB171_174.out
             have hnb106 := NB174_173.out
             have hnc106 := NB173_174.out
             have hcz107_0 : wc.cell? ⟨gb174, 0, none⟩ = some (.bool x175000_2) := (blk_cell BK174.out 0).trans rfl
             have hcz107_1 : wc.cell? ⟨gb174, 1, none⟩ = some (.bool x175001_31) := (blk_cell BK174.out 1).trans rfl
             have hcz107_2 : wc.cell? ⟨gb174, 2, none⟩ = some (.int .i64 x175002_49) := (blk_cell BK174.out 2).trans rfl
             have hcz107_3 : wc.cell? ⟨gb174, 3, none⟩ = some (.int .i64 x175003_65) := (blk_cell BK174.out 3).trans rfl
             have hcz107_4 : wc.cell? ⟨gb174, 4, none⟩ = some (.int .i64 a0_4) := (blk_cell BK174.out 4).trans rfl
             have hcz107_5 : wc.cell? ⟨gb174, 5, none⟩ = some (.int .i64 x175005_81) := (blk_cell BK174.out 5).trans rfl
             have hfz107_0 := blk_frozen BK174.out 0
             have hfz107_1 := blk_frozen BK174.out 1
             have hfz107_2 := blk_frozen BK174.out 2
             have hfz107_3 := blk_frozen BK174.out 3
             have hfz107_4 := blk_frozen BK174.out 4
             have hfz107_5 := blk_frozen BK174.out 5
             go_wp2_with (first | ((with_reducible refine gate_callee (f := 12) rfl ?_); refine goesL_ (some 58) rfl rfl Try.func12 (by kernel_rfl) rfl #[.bool x175000_2, .bool x175001_31] rfl (by (try simp only [List.map_toArray, List.map_cons, List.map_nil]); first | done | rfl | (simp only [List.length_drop, List.length_take]; rfl)) ?_; (with_reducible refine (squelchref08_Most.calls kj81 x175000_2 x175001_31 t175 _ A99.out).mono ?_); rintro e w' ⟨rfl, ⟨nd, rfl⟩⟩; refine ⟨_, rfl, ?_⟩; have hnb108 := NB173_171.out; have hnc108 := NB171_173.out; have hcz109_0 : wc.cell? ⟨gb173, 0, none⟩ = some (.bool false) := (blk_cell BK173.out 0).trans rfl; have hcz109_1 : wc.cell? ⟨gb173, 1, none⟩ = some (.bool false) := (blk_cell BK173.out 1).trans rfl; have hcz109_2 : wc.cell? ⟨gb173, 2, none⟩ = some (.int .i64 0) := (blk_cell BK173.out 2).trans rfl; have hcz109_3 : wc.cell? ⟨gb173, 3, none⟩ = some (.int .i64 0) := (blk_cell BK173.out 3).trans rfl; have hcz109_4 : wc.cell? ⟨gb173, 4, none⟩ = some (.int .i64 0) := (blk_cell BK173.out 4).trans rfl; have hcz109_5 : wc.cell? ⟨gb173, 5, none⟩ = some (.int .i64 0) := (blk_cell BK173.out 5).trans rfl; have hfz109_0 := blk_frozen BK173.out 0; have hfz109_1 := blk_frozen BK173.out 1; have hfz109_2 := blk_frozen BK173.out 2; have hfz109_3 := blk_frozen BK173.out 3; have hfz109_4 := blk_frozen BK173.out 4; have hfz109_5 := blk_frozen BK173.out 5))
             refine bodyPost_ret (results_cell_row rfl _ _ gb173 29 #[.bool x175000_2, .bool x175001_31, .int .i64 x175002_49, .int .i64 t175, .int .i64 a1_4, .int .i64 x175005_81] (0, 0) _ rfl (by (with_reducible repeat (first | refine blk_drewN ?_ _ | refine blk_drew ?_ | refine blk_alloc ?_ _)); refine blk_put (cs := #[.bool x175000_2, .bool x175001_31, .int .i64 x175002_49, .int .i64 t175, .int .i64 a1_4, .int .i64 0]) ?_ 5 _ rfl; (with_reducible repeat (first | refine blk_drewN ?_ _ | refine blk_drew ?_ | refine blk_alloc ?_ _)); refine blk_put (cs := #[.bool x175000_2, .bool x175001_31, .int .i64 x175002_49, .int .i64 t175, .int .i64 0, .int .i64 0]) ?_ 4 _ rfl; (with_reducible repeat (first | refine blk_drewN ?_ _ | refine blk_drew ?_ | refine blk_alloc ?_ _)); refine blk_put (cs := #[.bool x175000_2, .bool x175001_31, .int .i64 x175002_49, .int .i64 0, .int .i64 0, .int .i64 0]) ?_ 3 _ rfl; (with_reducible repeat (first | refine blk_drewN ?_ _ | refine blk_drew ?_ | refine blk_alloc ?_ _)); refine blk_put (cs := #[.bool x175000_2, .bool x175001_31, .int .i64 0, .int .i64 0, .int .i64 0, .int .i64 0]) ?_ 2 _ rfl; (with_reducible repeat (first | refine blk_drewN ?_ _ | refine blk_drew ?_ | refine blk_alloc ?_ _)); refine blk_put (cs := #[.bool x175000_2, .bool false, .int .i64 0, .int .i64 0, .int .i64 0, .int .i64 0]) ?_ 1 _ rfl; (with_reducible repeat (first | refine blk_drewN ?_ _ | refine blk_drew ?_ | refine blk_alloc ?_ _)); refine blk_put (cs := #[.bool false, .bool false, .int .i64 0, .int .i64 0, .int .i64 0, .int .i64 0]) ?_ 0 _ rfl; (with_reducible repeat (first | refine blk_drewN ?_ _ | refine blk_drew ?_ | refine blk_alloc ?_ _)); refine blk_far ?_ NB173_174.out _; (with_reducible repeat (first | refine blk_drewN ?_ _ | refine blk_drew ?_ | refine blk_alloc ?_ _)); refine blk_far ?_ NB173_174.out _; (with_reducible repeat (first | refine blk_drewN ?_ _ | refine blk_drew ?_ | refine blk_alloc ?_ _)); exact BK173.out) Try.underlying29 rfl (by kernel_rfl)) rfl ?_
             exact ⟨by first | rfl | (simp [errW_none, errW_some] <;> rfl) | (simp [*, errW_none, errW_some] <;> rfl), by repeat (first | (with_reducible first | exact HB.out | apply below_alloc | apply pw_below_drewN | apply below_drew1 | refine below_set ?_ GE171.out | refine below_set ?_ GE172.out | refine below_set ?_ GE173.out | refine below_set ?_ GE174.out) | exact HB.out)⟩
            ·rw [if_neg c100] at H
             have c100b0 : decide (t175 < x175003_65) = false := decide_eq_false c100
             clear c100
             simp only [Option.some.injEq, Prod.mk.injEq] at H
             obtain ⟨rfl, rfl, rfl, rfl, rfl, rfl⟩ := H
             have hnb110 := NB172_171.out
             have hnc110 := NB171_172.out
             have hnb111 := NB172_173.out
             have hnc111 := NB173_172.out
             have hnb112 := NB172_174.out
             have hnc112 := NB174_172.out
             have hcz113_0 : wc.cell? ⟨gb172, 0, none⟩ = some (.bool a1_0) := (blk_cell BK172.out 0).trans rfl
             have hcz113_1 : wc.cell? ⟨gb172, 1, none⟩ = some (.bool a1_1) := (blk_cell BK172.out 1).trans rfl
             have hcz113_2 : wc.cell? ⟨gb172, 2, none⟩ = some (.int .i64 a1_2) := (blk_cell BK172.out 2).trans rfl
             have hcz113_3 : wc.cell? ⟨gb172, 3, none⟩ = some (.int .i64 a1_3) := (blk_cell BK172.out 3).trans rfl
             have hcz113_4 : wc.cell? ⟨gb172, 4, none⟩ = some (.int .i64 a1_4) := (blk_cell BK172.out 4).trans rfl
             have hcz113_5 : wc.cell? ⟨gb172, 5, none⟩ = some (.int .i64 a1_5) := (blk_cell BK172.out 5).trans rfl
             have hfz113_0 := blk_frozen BK172.out 0
             have hfz113_1 := blk_frozen BK172.out 1
             have hfz113_2 := blk_frozen BK172.out 2
             have hfz113_3 := blk_frozen BK172.out 3
             have hfz113_4 := blk_frozen BK172.out 4
             have hfz113_5 := blk_frozen BK172.out 5
             have hnb114 := NB174_171.out
             have hnc114 := NB171_174.out
             have hnb115 := NB174_173.out
             have hnc115 := NB173_174.out
             have hcz116_0 : wc.cell? ⟨gb174, 0, none⟩ = some (.bool x175000_2) := (blk_cell BK174.out 0).trans rfl
             have hcz116_1 : wc.cell? ⟨gb174, 1, none⟩ = some (.bool x175001_31) := (blk_cell BK174.out 1).trans rfl
             have hcz116_2 : wc.cell? ⟨gb174, 2, none⟩ = some (.int .i64 x175002_49) := (blk_cell BK174.out 2).trans rfl
             have hcz116_3 : wc.cell? ⟨gb174, 3, none⟩ = some (.int .i64 x175003_65) := (blk_cell BK174.out 3).trans rfl
             have hcz116_4 : wc.cell? ⟨gb174, 4, none⟩ = some (.int .i64 a0_4) := (blk_cell BK174.out 4).trans rfl
             have hcz116_5 : wc.cell? ⟨gb174, 5, none⟩ = some (.int .i64 x175005_81) := (blk_cell BK174.out 5).trans rfl
             have hfz116_0 := blk_frozen BK174.out 0
             have hfz116_1 := blk_frozen BK174.out 1
             have hfz116_2 := blk_frozen BK174.out 2
             have hfz116_3 := blk_frozen BK174.out 3
             have hfz116_4 := blk_frozen BK174.out 4
             have hfz116_5 := blk_frozen BK174.out 5
             go_wp2_with (first | ((with_reducible refine gate_callee (f := 12) rfl ?_); refine goesL_ (some 58) rfl rfl Try.func12 (by kernel_rfl) rfl #[.bool x175000_2, .bool x175001_31] rfl (by (try simp only [List.map_toArray, List.map_cons, List.map_nil]); first | done | rfl | (simp only [List.length_drop, List.length_take]; rfl)) ?_; (with_reducible refine (squelchref08_Most.calls kj81 x175000_2 x175001_31 t175 _ A99.out).mono ?_); rintro e w' ⟨rfl, ⟨nd, rfl⟩⟩; refine ⟨_, rfl, ?_⟩; have hnb117 := NB173_171.out; have hnc117 := NB171_173.out; have hcz118_0 : wc.cell? ⟨gb173, 0, none⟩ = some (.bool false) := (blk_cell BK173.out 0).trans rfl; have hcz118_1 : wc.cell? ⟨gb173, 1, none⟩ = some (.bool false) := (blk_cell BK173.out 1).trans rfl; have hcz118_2 : wc.cell? ⟨gb173, 2, none⟩ = some (.int .i64 0) := (blk_cell BK173.out 2).trans rfl; have hcz118_3 : wc.cell? ⟨gb173, 3, none⟩ = some (.int .i64 0) := (blk_cell BK173.out 3).trans rfl; have hcz118_4 : wc.cell? ⟨gb173, 4, none⟩ = some (.int .i64 0) := (blk_cell BK173.out 4).trans rfl; have hcz118_5 : wc.cell? ⟨gb173, 5, none⟩ = some (.int .i64 0) := (blk_cell BK173.out 5).trans rfl; have hfz118_0 := blk_frozen BK173.out 0; have hfz118_1 := blk_frozen BK173.out 1; have hfz118_2 := blk_frozen BK173.out 2; have hfz118_3 := blk_frozen BK173.out 3; have hfz118_4 := blk_frozen BK173.out 4; have hfz118_5 := blk_frozen BK173.out 5))
             refine bodyPost_ret (results_cell_row rfl _ _ gb173 29 #[.bool x175000_2, .bool x175001_31, .int .i64 x175002_49, .int .i64 x175003_65, .int .i64 a1_4, .int .i64 x175005_81] (0, 0) _ rfl (by (with_reducible repeat (first | refine blk_drewN ?_ _ | refine blk_drew ?_ | refine blk_alloc ?_ _)); refine blk_put (cs := #[.bool x175000_2, .bool x175001_31, .int .i64 x175002_49, .int .i64 x175003_65, .int .i64 a1_4, .int .i64 0]) ?_ 5 _ rfl; (with_reducible repeat (first | refine blk_drewN ?_ _ | refine blk_drew ?_ | refine blk_alloc ?_ _)); refine blk_put (cs := #[.bool x175000_2, .bool x175001_31, .int .i64 x175002_49, .int .i64 x175003_65, .int .i64 0, .int .i64 0]) ?_ 4 _ rfl; (with_reducible repeat (first | refine blk_drewN ?_ _ | refine blk_drew ?_ | refine blk_alloc ?_ _)); refine blk_put (cs := #[.bool x175000_2, .bool x175001_31, .int .i64 x175002_49, .int .i64 0, .int .i64 0, .int .i64 0]) ?_ 3 _ rfl; (with_reducible repeat (first | refine blk_drewN ?_ _ | refine blk_drew ?_ | refine blk_alloc ?_ _)); refine blk_put (cs := #[.bool x175000_2, .bool x175001_31, .int .i64 0, .int .i64 0, .int .i64 0, .int .i64 0]) ?_ 2 _ rfl; (with_reducible repeat (first | refine blk_drewN ?_ _ | refine blk_drew ?_ | refine blk_alloc ?_ _)); refine blk_put (cs := #[.bool x175000_2, .bool false, .int .i64 0, .int .i64 0, .int .i64 0, .int .i64 0]) ?_ 1 _ rfl; (with_reducible repeat (first | refine blk_drewN ?_ _ | refine blk_drew ?_ | refine blk_alloc ?_ _)); refine blk_put (cs := #[.bool false, .bool false, .int .i64 0, .int .i64 0, .int .i64 0, .int .i64 0]) ?_ 0 _ rfl; (with_reducible repeat (first | refine blk_drewN ?_ _ | refine blk_drew ?_ | refine blk_alloc ?_ _)); refine blk_far ?_ NB173_174.out _; (with_reducible repeat (first | refine blk_drewN ?_ _ | refine blk_drew ?_ | refine blk_alloc ?_ _)); exact BK173.out) Try.underlying29 rfl (by kernel_rfl)) rfl ?_
             exact ⟨by first | rfl | (simp [errW_none, errW_some] <;> rfl) | (simp [*, errW_none, errW_some] <;> rfl), by repeat (first | (with_reducible first | exact HB.out | apply below_alloc | apply pw_below_drewN | apply below_drew1 | refine below_set ?_ GE171.out | refine below_set ?_ GE172.out | refine below_set ?_ GE173.out | refine below_set ?_ GE174.out) | exact HB.out)⟩
           ·rw [if_neg c98] at H
            have c98b0 : decide (a0_4 < a1_4) = false := decide_eq_false c98
            clear c98
            replace H := Option.bind_eq_some_iff.mp H
            obtain ⟨t176, A1190, H⟩ := H
            replace H : (if x175003_65 > t176 then (some (x175000_2, x175001_31, x175002_49, t176, a0_4, x175005_81)) else (some (x175000_2, x175001_31, x175002_49, x175003_65, a0_4, x175005_81))) = some (r1, r2, r3, r4, r5, r6) := H
            have A119 := Aside0.mk A1190
            clear A1190
            by_cases c120 : x175003_65 > t176
            ·rw [if_pos c120] at H
             have c120b0 : decide (t176 < x175003_65) = true := decide_eq_true c120
             clear c120
             simp only [Option.some.injEq, Prod.mk.injEq] at H
             obtain ⟨rfl, rfl, rfl, rfl, rfl, rfl⟩ := H
             have hnb121 := NB172_171.out
             have hnc121 := NB171_172.out
             have hnb122 := NB172_173.out
             have hnc122 := NB173_172.out
             have hnb123 := NB172_174.out
             have hnc123 := NB174_172.out
             have hcz124_0 : wc.cell? ⟨gb172, 0, none⟩ = some (.bool a1_0) := (blk_cell BK172.out 0).trans rfl
             have hcz124_1 : wc.cell? ⟨gb172, 1, none⟩ = some (.bool a1_1) := (blk_cell BK172.out 1).trans rfl
             have hcz124_2 : wc.cell? ⟨gb172, 2, none⟩ = some (.int .i64 a1_2) := (blk_cell BK172.out 2).trans rfl
             have hcz124_3 : wc.cell? ⟨gb172, 3, none⟩ = some (.int .i64 a1_3) := (blk_cell BK172.out 3).trans rfl
             have hcz124_4 : wc.cell? ⟨gb172, 4, none⟩ = some (.int .i64 a1_4) := (blk_cell BK172.out 4).trans rfl
             have hcz124_5 : wc.cell? ⟨gb172, 5, none⟩ = some (.int .i64 a1_5) := (blk_cell BK172.out 5).trans rfl
             have hfz124_0 := blk_frozen BK172.out 0
             have hfz124_1 := blk_frozen BK172.out 1
             have hfz124_2 := blk_frozen BK172.out 2
             have hfz124_3 := blk_frozen BK172.out 3
             have hfz124_4 := blk_frozen BK172.out 4
             have hfz124_5 := blk_frozen BK172.out 5
             have hnb125 := NB174_171.out
             have hnc125 := NB171_174.out
             have hnb126 := NB174_173.out
             have hnc126 := NB173_174.out
             have hcz127_0 : wc.cell? ⟨gb174, 0, none⟩ = some (.bool x175000_2) := (blk_cell BK174.out 0).trans rfl
             have hcz127_1 : wc.cell? ⟨gb174, 1, none⟩ = some (.bool x175001_31) := (blk_cell BK174.out 1).trans rfl
             have hcz127_2 : wc.cell? ⟨gb174, 2, none⟩ = some (.int .i64 x175002_49) := (blk_cell BK174.out 2).trans rfl
             have hcz127_3 : wc.cell? ⟨gb174, 3, none⟩ = some (.int .i64 x175003_65) := (blk_cell BK174.out 3).trans rfl
             have hcz127_4 : wc.cell? ⟨gb174, 4, none⟩ = some (.int .i64 a0_4) := (blk_cell BK174.out 4).trans rfl
             have hcz127_5 : wc.cell? ⟨gb174, 5, none⟩ = some (.int .i64 x175005_81) := (blk_cell BK174.out 5).trans rfl
             have hfz127_0 := blk_frozen BK174.out 0
             have hfz127_1 := blk_frozen BK174.out 1
             have hfz127_2 := blk_frozen BK174.out 2
             have hfz127_3 := blk_frozen BK174.out 3
             have hfz127_4 := blk_frozen BK174.out 4
             have hfz127_5 := blk_frozen BK174.out 5
             go_wp2_with (first | ((with_reducible refine gate_callee (f := 12) rfl ?_); refine goesL_ (some 58) rfl rfl Try.func12 (by kernel_rfl) rfl #[.bool x175000_2, .bool x175001_31] rfl (by (try simp only [List.map_toArray, List.map_cons, List.map_nil]); first | done | rfl | (simp only [List.length_drop, List.length_take]; rfl)) ?_; (with_reducible refine (squelchref08_Most.calls kj81 x175000_2 x175001_31 t176 _ A119.out).mono ?_); rintro e w' ⟨rfl, ⟨nd, rfl⟩⟩; refine ⟨_, rfl, ?_⟩; (try (rw [drewN_self wc]; generalize hq_ : World.drewN wc _ = wc; have n0_ : Aside0 (wc.heap[gb171]? = some (.cells #[.bool a0_0, .bool a0_1, .int .i64 a0_2, .int .i64 a0_3, .int .i64 a0_4, .int .i64 a0_5] 29 (0, 0))) := ⟨by rw [← hq_]; exact (by (with_reducible repeat (first | refine blk_drewN ?_ _ | refine blk_drew ?_ | refine blk_alloc ?_ _)); exact BK171.out)⟩; have n1_ : Aside0 (wc.heap[gb172]? = some (.cells #[.bool a1_0, .bool a1_1, .int .i64 a1_2, .int .i64 a1_3, .int .i64 a1_4, .int .i64 a1_5] 29 (0, 0))) := ⟨by rw [← hq_]; exact (by (with_reducible repeat (first | refine blk_drewN ?_ _ | refine blk_drew ?_ | refine blk_alloc ?_ _)); exact BK172.out)⟩; have n2_ : Aside0 (wc.heap[gb173]? = some (.cells #[.bool false, .bool false, .int .i64 0, .int .i64 0, .int .i64 0, .int .i64 0] 29 (0, 0))) := ⟨by rw [← hq_]; exact (by (with_reducible repeat (first | refine blk_drewN ?_ _ | refine blk_drew ?_ | refine blk_alloc ?_ _)); exact BK173.out)⟩; have n3_ : Aside0 (wc.heap[gb174]? = some (.cells #[.bool x175000_2, .bool x175001_31, .int .i64 x175002_49, .int .i64 x175003_65, .int .i64 a0_4, .int .i64 x175005_81] 29 (0, 0))) := ⟨by rw [← hq_]; exact (by (with_reducible repeat (first | refine blk_drewN ?_ _ | refine blk_drew ?_ | refine blk_alloc ?_ _)); exact BK174.out)⟩; have n4_ : Aside0 (Below w.heap.size w wc) := ⟨by rw [← hq_]; exact (by repeat (first | (with_reducible first | exact HB.out | apply below_alloc | apply pw_below_drewN | apply below_drew1 | refine below_set ?_ GE171.out | refine below_set ?_ GE172.out | refine below_set ?_ GE173.out | refine below_set ?_ GE174.out) | exact HB.out))⟩; clear BK171 BK172 BK173 BK174 HB hq_; have BK171 := n0_; have BK172 := n1_; have BK173 := n2_; have BK174 := n3_; have HB := n4_; clear n0_ n1_ n2_ n3_ n4_)); have hcz128_0 : wc.cell? ⟨gb174, 0, none⟩ = some (.bool x175000_2) := (blk_cell BK174.out 0).trans rfl; have hcz128_1 : wc.cell? ⟨gb174, 1, none⟩ = some (.bool x175001_31) := (blk_cell BK174.out 1).trans rfl; have hcz128_2 : wc.cell? ⟨gb174, 2, none⟩ = some (.int .i64 x175002_49) := (blk_cell BK174.out 2).trans rfl; have hcz128_3 : wc.cell? ⟨gb174, 3, none⟩ = some (.int .i64 x175003_65) := (blk_cell BK174.out 3).trans rfl; have hcz128_4 : wc.cell? ⟨gb174, 4, none⟩ = some (.int .i64 a0_4) := (blk_cell BK174.out 4).trans rfl; have hcz128_5 : wc.cell? ⟨gb174, 5, none⟩ = some (.int .i64 x175005_81) := (blk_cell BK174.out 5).trans rfl; have hfz128_0 := blk_frozen BK174.out 0; have hfz128_1 := blk_frozen BK174.out 1; have hfz128_2 := blk_frozen BK174.out 2; have hfz128_3 := blk_frozen BK174.out 3; have hfz128_4 := blk_frozen BK174.out 4; have hfz128_5 := blk_frozen BK174.out 5; have hnb129 := NB173_171.out; have hnc129 := NB171_173.out; have hcz130_0 : wc.cell? ⟨gb173, 0, none⟩ = some (.bool false) := (blk_cell BK173.out 0).trans rfl; have hcz130_1 : wc.cell? ⟨gb173, 1, none⟩ = some (.bool false) := (blk_cell BK173.out 1).trans rfl; have hcz130_2 : wc.cell? ⟨gb173, 2, none⟩ = some (.int .i64 0) := (blk_cell BK173.out 2).trans rfl; have hcz130_3 : wc.cell? ⟨gb173, 3, none⟩ = some (.int .i64 0) := (blk_cell BK173.out 3).trans rfl; have hcz130_4 : wc.cell? ⟨gb173, 4, none⟩ = some (.int .i64 0) := (blk_cell BK173.out 4).trans rfl; have hcz130_5 : wc.cell? ⟨gb173, 5, none⟩ = some (.int .i64 0) := (blk_cell BK173.out 5).trans rfl; have hfz130_0 := blk_frozen BK173.out 0; have hfz130_1 := blk_frozen BK173.out 1; have hfz130_2 := blk_frozen BK173.out 2; have hfz130_3 := blk_frozen BK173.out 3; have hfz130_4 := blk_frozen BK173.out 4; have hfz130_5 := blk_frozen BK173.out 5))
             refine bodyPost_ret (results_cell_row rfl _ _ gb173 29 #[.bool x175000_2, .bool x175001_31, .int .i64 x175002_49, .int .i64 t176, .int .i64 a0_4, .int .i64 x175005_81] (0, 0) _ rfl (by (with_reducible repeat (first | refine blk_drewN ?_ _ | refine blk_drew ?_ | refine blk_alloc ?_ _)); refine blk_put (cs := #[.bool x175000_2, .bool x175001_31, .int .i64 x175002_49, .int .i64 t176, .int .i64 a0_4, .int .i64 0]) ?_ 5 _ rfl; (with_reducible repeat (first | refine blk_drewN ?_ _ | refine blk_drew ?_ | refine blk_alloc ?_ _)); refine blk_put (cs := #[.bool x175000_2, .bool x175001_31, .int .i64 x175002_49, .int .i64 t176, .int .i64 0, .int .i64 0]) ?_ 4 _ rfl; (with_reducible repeat (first | refine blk_drewN ?_ _ | refine blk_drew ?_ | refine blk_alloc ?_ _)); refine blk_put (cs := #[.bool x175000_2, .bool x175001_31, .int .i64 x175002_49, .int .i64 0, .int .i64 0, .int .i64 0]) ?_ 3 _ rfl; (with_reducible repeat (first | refine blk_drewN ?_ _ | refine blk_drew ?_ | refine blk_alloc ?_ _)); refine blk_put (cs := #[.bool x175000_2, .bool x175001_31, .int .i64 0, .int .i64 0, .int .i64 0, .int .i64 0]) ?_ 2 _ rfl; (with_reducible repeat (first | refine blk_drewN ?_ _ | refine blk_drew ?_ | refine blk_alloc ?_ _)); refine blk_put (cs := #[.bool x175000_2, .bool false, .int .i64 0, .int .i64 0, .int .i64 0, .int .i64 0]) ?_ 1 _ rfl; (with_reducible repeat (first | refine blk_drewN ?_ _ | refine blk_drew ?_ | refine blk_alloc ?_ _)); refine blk_put (cs := #[.bool false, .bool false, .int .i64 0, .int .i64 0, .int .i64 0, .int .i64 0]) ?_ 0 _ rfl; (with_reducible repeat (first | refine blk_drewN ?_ _ | refine blk_drew ?_ | refine blk_alloc ?_ _)); refine blk_far ?_ NB173_174.out _; (with_reducible repeat (first | refine blk_drewN ?_ _ | refine blk_drew ?_ | refine blk_alloc ?_ _)); exact BK173.out) Try.underlying29 rfl (by kernel_rfl)) rfl ?_
             exact ⟨by first | rfl | (simp [errW_none, errW_some] <;> rfl) | (simp [*, errW_none, errW_some] <;> rfl), by repeat (first | (with_reducible first | exact HB.out | apply below_alloc | apply pw_below_drewN | apply below_drew1 | refine below_set ?_ GE171.out | refine below_set ?_ GE172.out | refine below_set ?_ GE173.out | refine below_set ?_ GE174.out) | exact HB.out)⟩
            ·rw [if_neg c120] at H
             have c120b0 : decide (t176 < x175003_65) = false := decide_eq_false c120
             clear c120
             simp only [Option.some.injEq, Prod.mk.injEq] at H
             obtain ⟨rfl, rfl, rfl, rfl, rfl, rfl⟩ := H
             have hnb131 := NB172_171.out
             have hnc131 := NB171_172.out
             have hnb132 := NB172_173.out
             have hnc132 := NB173_172.out
             have hnb133 := NB172_174.out
             have hnc133 := NB174_172.out
             have hcz134_0 : wc.cell? ⟨gb172, 0, none⟩ = some (.bool a1_0) := (blk_cell BK172.out 0).trans rfl
             have hcz134_1 : wc.cell? ⟨gb172, 1, none⟩ = some (.bool a1_1) := (blk_cell BK172.out 1).trans rfl
             have hcz134_2 : wc.cell? ⟨gb172, 2, none⟩ = some (.int .i64 a1_2) := (blk_cell BK172.out 2).trans rfl
             have hcz134_3 : wc.cell? ⟨gb172, 3, none⟩ = some (.int .i64 a1_3) := (blk_cell BK172.out 3).trans rfl
             have hcz134_4 : wc.cell? ⟨gb172, 4, none⟩ = some (.int .i64 a1_4) := (blk_cell BK172.out 4).trans rfl
             have hcz134_5 : wc.cell? ⟨gb172, 5, none⟩ = some (.int .i64 a1_5) := (blk_cell BK172.out 5).trans rfl
             have hfz134_0 := blk_frozen BK172.out 0
             have hfz134_1 := blk_frozen BK172.out 1
             have hfz134_2 := blk_frozen BK172.out 2
             have hfz134_3 := blk_frozen BK172.out 3
             have hfz134_4 := blk_frozen BK172.out 4
             have hfz134_5 := blk_frozen BK172.out 5
             have hnb135 := NB174_171.out
             have hnc135 := NB171_174.out
             have hnb136 := NB174_173.out
             have hnc136 := NB173_174.out
             have hcz137_0 : wc.cell? ⟨gb174, 0, none⟩ = some (.bool x175000_2) := (blk_cell BK174.out 0).trans rfl
             have hcz137_1 : wc.cell? ⟨gb174, 1, none⟩ = some (.bool x175001_31) := (blk_cell BK174.out 1).trans rfl
             have hcz137_2 : wc.cell? ⟨gb174, 2, none⟩ = some (.int .i64 x175002_49) := (blk_cell BK174.out 2).trans rfl
             have hcz137_3 : wc.cell? ⟨gb174, 3, none⟩ = some (.int .i64 x175003_65) := (blk_cell BK174.out 3).trans rfl
             have hcz137_4 : wc.cell? ⟨gb174, 4, none⟩ = some (.int .i64 a0_4) := (blk_cell BK174.out 4).trans rfl
             have hcz137_5 : wc.cell? ⟨gb174, 5, none⟩ = some (.int .i64 x175005_81) := (blk_cell BK174.out 5).trans rfl
             have hfz137_0 := blk_frozen BK174.out 0
             have hfz137_1 := blk_frozen BK174.out 1
             have hfz137_2 := blk_frozen BK174.out 2
             have hfz137_3 := blk_frozen BK174.out 3
             have hfz137_4 := blk_frozen BK174.out 4
             have hfz137_5 := blk_frozen BK174.out 5
             go_wp2_with (first | ((with_reducible refine gate_callee (f := 12) rfl ?_); refine goesL_ (some 58) rfl rfl Try.func12 (by kernel_rfl) rfl #[.bool x175000_2, .bool x175001_31] rfl (by (try simp only [List.map_toArray, List.map_cons, List.map_nil]); first | done | rfl | (simp only [List.length_drop, List.length_take]; rfl)) ?_; (with_reducible refine (squelchref08_Most.calls kj81 x175000_2 x175001_31 t176 _ A119.out).mono ?_); rintro e w' ⟨rfl, ⟨nd, rfl⟩⟩; refine ⟨_, rfl, ?_⟩; (try (rw [drewN_self wc]; generalize hq_ : World.drewN wc _ = wc; have n0_ : Aside0 (wc.heap[gb171]? = some (.cells #[.bool a0_0, .bool a0_1, .int .i64 a0_2, .int .i64 a0_3, .int .i64 a0_4, .int .i64 a0_5] 29 (0, 0))) := ⟨by rw [← hq_]; exact (by (with_reducible repeat (first | refine blk_drewN ?_ _ | refine blk_drew ?_ | refine blk_alloc ?_ _)); exact BK171.out)⟩; have n1_ : Aside0 (wc.heap[gb172]? = some (.cells #[.bool a1_0, .bool a1_1, .int .i64 a1_2, .int .i64 a1_3, .int .i64 a1_4, .int .i64 a1_5] 29 (0, 0))) := ⟨by rw [← hq_]; exact (by (with_reducible repeat (first | refine blk_drewN ?_ _ | refine blk_drew ?_ | refine blk_alloc ?_ _)); exact BK172.out)⟩; have n2_ : Aside0 (wc.heap[gb173]? = some (.cells #[.bool false, .bool false, .int .i64 0, .int .i64 0, .int .i64 0, .int .i64 0] 29 (0, 0))) := ⟨by rw [← hq_]; exact (by (with_reducible repeat (first | refine blk_drewN ?_ _ | refine blk_drew ?_ | refine blk_alloc ?_ _)); exact BK173.out)⟩; have n3_ : Aside0 (wc.heap[gb174]? = some (.cells #[.bool x175000_2, .bool x175001_31, .int .i64 x175002_49, .int .i64 x175003_65, .int .i64 a0_4, .int .i64 x175005_81] 29 (0, 0))) := ⟨by rw [← hq_]; exact (by (with_reducible repeat (first | refine blk_drewN ?_ _ | refine blk_drew ?_ | refine blk_alloc ?_ _)); exact BK174.out)⟩; have n4_ : Aside0 (Below w.heap.size w wc) := ⟨by rw [← hq_]; exact (by repeat (first | (with_reducible first | exact HB.out | apply below_alloc | apply pw_below_drewN | apply below_drew1 | refine below_set ?_ GE171.out | refine below_set ?_ GE172.out | refine below_set ?_ GE173.out | refine below_set ?_ GE174.out) | exact HB.out))⟩; clear BK171 BK172 BK173 BK174 HB hq_; have BK171 := n0_; have BK172 := n1_; have BK173 := n2_; have BK174 := n3_; have HB := n4_; clear n0_ n1_ n2_ n3_ n4_)); have hcz138_0 : wc.cell? ⟨gb174, 0, none⟩ = some (.bool x175000_2) := (blk_cell BK174.out 0).trans rfl; have hcz138_1 : wc.cell? ⟨gb174, 1, none⟩ = some (.bool x175001_31) := (blk_cell BK174.out 1).trans rfl; have hcz138_2 : wc.cell? ⟨gb174, 2, none⟩ = some (.int .i64 x175002_49) := (blk_cell BK174.out 2).trans rfl; have hcz138_3 : wc.cell? ⟨gb174, 3, none⟩ = some (.int .i64 x175003_65) := (blk_cell BK174.out 3).trans rfl; have hcz138_4 : wc.cell? ⟨gb174, 4, none⟩ = some (.int .i64 a0_4) := (blk_cell BK174.out 4).trans rfl; have hcz138_5 : wc.cell? ⟨gb174, 5, none⟩ = some (.int .i64 x175005_81) := (blk_cell BK174.out 5).trans rfl; have hfz138_0 := blk_frozen BK174.out 0; have hfz138_1 := blk_frozen BK174.out 1; have hfz138_2 := blk_frozen BK174.out 2; have hfz138_3 := blk_frozen BK174.out 3; have hfz138_4 := blk_frozen BK174.out 4; have hfz138_5 := blk_frozen BK174.out 5; have hnb139 := NB173_171.out; have hnc139 := NB171_173.out; have hcz140_0 : wc.cell? ⟨gb173, 0, none⟩ = some (.bool false) := (blk_cell BK173.out 0).trans rfl; have hcz140_1 : wc.cell? ⟨gb173, 1, none⟩ = some (.bool false) := (blk_cell BK173.out 1).trans rfl; have hcz140_2 : wc.cell? ⟨gb173, 2, none⟩ = some (.int .i64 0) := (blk_cell BK173.out 2).trans rfl; have hcz140_3 : wc.cell? ⟨gb173, 3, none⟩ = some (.int .i64 0) := (blk_cell BK173.out 3).trans rfl; have hcz140_4 : wc.cell? ⟨gb173, 4, none⟩ = some (.int .i64 0) := (blk_cell BK173.out 4).trans rfl; have hcz140_5 : wc.cell? ⟨gb173, 5, none⟩ = some (.int .i64 0) := (blk_cell BK173.out 5).trans rfl; have hfz140_0 := blk_frozen BK173.out 0; have hfz140_1 := blk_frozen BK173.out 1; have hfz140_2 := blk_frozen BK173.out 2; have hfz140_3 := blk_frozen BK173.out 3; have hfz140_4 := blk_frozen BK173.out 4; have hfz140_5 := blk_frozen BK173.out 5))
             refine bodyPost_ret (results_cell_row rfl _ _ gb173 29 #[.bool x175000_2, .bool x175001_31, .int .i64 x175002_49, .int .i64 x175003_65, .int .i64 a0_4, .int .i64 x175005_81] (0, 0) _ rfl (by (with_reducible repeat (first | refine blk_drewN ?_ _ | refine blk_drew ?_ | refine blk_alloc ?_ _)); refine blk_put (cs := #[.bool x175000_2, .bool x175001_31, .int .i64 x175002_49, .int .i64 x175003_65, .int .i64 a0_4, .int .i64 0]) ?_ 5 _ rfl; (with_reducible repeat (first | refine blk_drewN ?_ _ | refine blk_drew ?_ | refine blk_alloc ?_ _)); refine blk_put (cs := #[.bool x175000_2, .bool x175001_31, .int .i64 x175002_49, .int .i64 x175003_65, .int .i64 0, .int .i64 0]) ?_ 4 _ rfl; (with_reducible repeat (first | refine blk_drewN ?_ _ | refine blk_drew ?_ | refine blk_alloc ?_ _)); refine blk_put (cs := #[.bool x175000_2, .bool x175001_31, .int .i64 x175002_49, .int .i64 0, .int .i64 0, .int .i64 0]) ?_ 3 _ rfl; (with_reducible repeat (first | refine blk_drewN ?_ _ | refine blk_drew ?_ | refine blk_alloc ?_ _)); refine blk_put (cs := #[.bool x175000_2, .bool x175001_31, .int .i64 0, .int .i64 0, .int .i64 0, .int .i64 0]) ?_ 2 _ rfl; (with_reducible repeat (first | refine blk_drewN ?_ _ | refine blk_drew ?_ | refine blk_alloc ?_ _)); refine blk_put (cs := #[.bool x175000_2, .bool false, .int .i64 0, .int .i64 0, .int .i64 0, .int .i64 0]) ?_ 1 _ rfl; (with_reducible repeat (first | refine blk_drewN ?_ _ | refine blk_drew ?_ | refine blk_alloc ?_ _)); refine blk_put (cs := #[.bool false, .bool false, .int .i64 0, .int .i64 0, .int .i64 0, .int .i64 0]) ?_ 0 _ rfl; (with_reducible repeat (first | refine blk_drewN ?_ _ | refine blk_drew ?_ | refine blk_alloc ?_ _)); exact BK173.out) Try.underlying29 rfl (by kernel_rfl)) rfl ?_
             exact ⟨by first | rfl | (simp [errW_none, errW_some] <;> rfl) | (simp [*, errW_none, errW_some] <;> rfl), by repeat (first | (with_reducible first | exact HB.out | apply below_alloc | apply pw_below_drewN | apply below_drew1 | refine below_set ?_ GE171.out | refine below_set ?_ GE172.out | refine below_set ?_ GE173.out | refine below_set ?_ GE174.out) | exact HB.out)⟩

end Go.Proofs.Ytpmieapgbdbabaa.QXidAgrees
