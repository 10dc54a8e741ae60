/- Walks, written by a program of this session (wip/pp): a Go function comes to what the Lean function beside it tells. -/
import Derived.Test.YtpmieapgbdbabaaDoorQAllx0
namespace Go.Proofs.YtpmieapgbdbabaaDoor.QAll
open Go.RowKit Go.Proofs.YtpmieapgbdbabaaDoorW.PrintWords Go.Proofs.YtpmieapgbdbabaaDoorW.PrintLast Go.Proofs.YtpmieapgbdbabaaDoorW.PrintMore
attribute [local go_sem] max2_int min2_int max_two min_two max_three min_three max_four min_four   -- for this text's walks alone
set_option linter.unusedVariables false
set_option linter.unusedSimpArgs false

/-! ### squelchref04_Less: function 38 -/
mutual
def squelchref04_Less.l0 : Nat → Int → ByteArray → Int → ByteArray → Int → Option (Bool)
  | 0, _, _, _, _, _ => none
  | k + 1, x5, x290000, x290001, x291000, x291001 => if x5 < (x290000.size : Int) then (squelchref04_Less.j1 k x5 (decide (x5 < (x291000.size : Int))) x290000 x290001 x291000 x291001) else (squelchref04_Less.j1 k x5 false x290000 x290001 x291000 x291001)
def squelchref04_Less.j1 : Nat → Int → Bool → ByteArray → Int → ByteArray → Int → Option (Bool)
  | 0, _, _, _, _, _, _ => none
  | k + 1, x5, x17, x290000, x290001, x291000, x291001 => if x17 = true then (if 0 ≤ x5 then (if x5 < (x290000.size : Int) then (if x5 < (x291000.size : Int) then (if (bt x290000 x5) = (bt x291000 x5) then (squelchref04_Less.l0 k (wrap64 (x5 + 1)) x290000 x290001 x291000 x291001) else (some (decide ((bt x290000 x5) < (bt x291000 x5))))) else (none)) else (none)) else (none)) else (if (x290000.size : Int) = (x291000.size : Int) then (some (decide (x290001 < x291001))) else (some (decide ((x290000.size : Int) < (x291000.size : Int)))))
end
def squelchref04_Less.f (k : Nat) (a0_0 : ByteArray) (a0_1 : Int) (a1_0 : ByteArray) (a1_1 : Int) : Option (Bool) := squelchref04_Less.l0 k 0 a0_0 a0_1 a1_0 a1_1
theorem squelchref04_Less.mono_l : ∀ k, (∀ y0 y1 y2 y3 y4, LeO (squelchref04_Less.l0 k y0 y1 y2 y3 y4) (squelchref04_Less.l0 (k + 1) y0 y1 y2 y3 y4)) ∧ (∀ y0 y1 y2 y3 y4 y5, LeO (squelchref04_Less.j1 k y0 y1 y2 y3 y4 y5) (squelchref04_Less.j1 (k + 1) y0 y1 y2 y3 y4 y5))
  | 0 => ⟨fun _ _ _ _ _ r h => by simp [squelchref04_Less.l0] at h, fun _ _ _ _ _ _ r h => by simp [squelchref04_Less.j1] at h⟩
  | k + 1 => by
    obtain ⟨ih0, ih1⟩ := squelchref04_Less.mono_l k
    refine ⟨?_, ?_⟩
    · intro y0 y1 y2 y3 y4
      unfold squelchref04_Less.l0
      repeat' first
      | (with_reducible exact ih0 _ _ _ _ _)
      | (with_reducible exact ih1 _ _ _ _ _ _)
      | (with_reducible exact LeO.refl _)
      | (with_reducible exact LeO.none _)
      | (with_reducible refine LeO.ite ?_ ?_)
      | (with_reducible refine LeO.bind ?_ (fun _ => ?_))
      | exact ih0 _ _ _ _ _
      | exact ih1 _ _ _ _ _ _
      | exact LeO.none _
      | refine LeO.ite ?_ ?_
      | refine LeO.bind ?_ (fun _ => ?_)
    · intro y0 y1 y2 y3 y4 y5
      unfold squelchref04_Less.j1
      repeat' first
      | (with_reducible exact ih0 _ _ _ _ _)
      | (with_reducible exact ih1 _ _ _ _ _ _)
      | (with_reducible exact LeO.refl _)
      | (with_reducible exact LeO.none _)
      | (with_reducible refine LeO.ite ?_ ?_)
      | (with_reducible refine LeO.bind ?_ (fun _ => ?_))
      | exact ih0 _ _ _ _ _
      | exact ih1 _ _ _ _ _ _
      | exact LeO.none _
      | refine LeO.ite ?_ ?_
      | refine LeO.bind ?_ (fun _ => ?_)
theorem squelchref04_Less.mono : ∀ a0 a1 a2 a3 k, LeO (squelchref04_Less.f k a0 a1 a2 a3) (squelchref04_Less.f (k + 1) a0 a1 a2 a3) := by
  intro a0 a1 a2 a3 k
  obtain ⟨ih0, ih1⟩ := squelchref04_Less.mono_l k
  unfold squelchref04_Less.f
  repeat' first
      | (with_reducible exact ih0 _ _ _ _ _)
      | (with_reducible exact ih1 _ _ _ _ _ _)
      | (with_reducible exact LeO.refl _)
      | (with_reducible exact LeO.none _)
      | (with_reducible refine LeO.ite ?_ ?_)
      | (with_reducible refine LeO.bind ?_ (fun _ => ?_))
      | exact ih0 _ _ _ _ _
      | exact ih1 _ _ _ _ _ _
      | exact LeO.none _
      | refine LeO.ite ?_ ?_
      | refine LeO.bind ?_ (fun _ => ?_)
set_option maxHeartbeats 8000000 in
set_option maxRecDepth 100000 in
theorem squelchref04_Less.calls (k : Nat) (a0_0 : ByteArray) (a0_1 : Int) (a1_0 : ByteArray) (a1_1 : Int) (r : Bool) (w : World) (h : squelchref04_Less.f k a0_0 a0_1 a1_0 a1_1 = some r) :
    Calls Tryd.prog 38 #[.agg #[.string a0_0, .int .i64 a0_1], .agg #[.string a1_0, .int .i64 a1_1]] w fun e w' => e = .returned (.bool r) ∧ Below w.heap.size w w' := by
  have hu23 := Tryd.underlying23
  have HB := Aside0.mk (Below.refl w.heap.size w)
  have H : (squelchref04_Less.l0 k 0 a0_0 a0_1 a1_0 a1_1) = some r := h
  clear h
  have H' := Aside0.mk H
  clear H
  go_enter Tryd.func38, Tryd.ntmps38
  go_wp2_with (first | ((with_reducible refine gate_dst (N := 2) rfl ?_); (try (refine gate_guard (by rfl) ?_; dsimp only)); refine box_event ?hg (N := 2) ?hd (cs := #[.string a0_0, .int .i64 a0_1]) (t := 23) ?hr ?_; (case hd => rfl); (case hg => rfl); (case hr => first | (go_simp; done) | (go_simp; rfl)); intro gb289 hg w3 hbox hb; have n0_ := Aside0.mk (below_step (by repeat (first | (with_reducible first | exact HB.out | apply below_alloc | apply pw_below_drewN | apply below_drew1) | exact HB.out)) hb); have n1_ := Aside0.mk (hbox); have n2_ := Aside0.mk ((by rw [hg]; exact (below_size (by repeat (first | (with_reducible first | exact HB.out | apply below_alloc | apply pw_below_drewN | apply below_drew1) | exact HB.out))) : w.heap.size ≤ gb289)); have n3_ := Aside0.mk ((by rw [hg]; exact (below_size (by repeat (first | (with_reducible first | exact HB.out | apply below_alloc | apply pw_below_drewN | apply below_drew1) | exact HB.out))) : w.heap.size ≤ gb289)); clear HB; have HB := n0_; have BK289 := n1_; have GW289 := n2_; have GE289 := n3_; clear n0_ n1_ n2_ n3_; clear hb hbox hg) | ((with_reducible refine gate_dst (N := 3) rfl ?_); (try (refine gate_guard (by rfl) ?_; dsimp only)); refine box_event ?hg (N := 3) ?hd (cs := #[.string a1_0, .int .i64 a1_1]) (t := 23) ?hr ?_; (case hd => rfl); (case hg => rfl); (case hr => first | (go_simp; done) | (go_simp; rfl)); intro gb290 hg w4 hbox hb; have n0_ := Aside0.mk (blk_below (g := gb289) (o := .cells #[.string a0_0, .int .i64 a0_1] 23 (0, 0)) (by (with_reducible repeat (first | refine blk_drewN ?_ _ | refine blk_drew ?_ | refine blk_alloc ?_ _)); exact BK289.out) hb); have n1_ := Aside0.mk (below_step (by repeat (first | (with_reducible first | exact HB.out | apply below_alloc | apply pw_below_drewN | apply below_drew1 | refine below_set ?_ GE289.out) | exact HB.out)) hb); have n2_ := Aside0.mk (hbox); have n3_ := Aside0.mk ((by rw [hg]; exact (below_size (by repeat (first | (with_reducible first | exact HB.out | apply below_alloc | apply pw_below_drewN | apply below_drew1 | refine below_set ?_ GE289.out) | exact HB.out))) : w.heap.size ≤ gb290)); have n4_ := Aside0.mk ((by rw [hg]; exact (below_size (by repeat (first | (with_reducible first | exact HB.out | apply below_alloc | apply pw_below_drewN | apply below_drew1 | refine below_set ?_ GE289.out) | exact HB.out))) : w.heap.size ≤ gb290)); have n5_ := Aside0.mk ((by rw [hg]; exact Nat.ne_of_lt (blk_lt (g := gb289) (o := .cells #[.string a0_0, .int .i64 a0_1] 23 (0, 0)) (by (with_reducible repeat (first | refine blk_drewN ?_ _ | refine blk_drew ?_ | refine blk_alloc ?_ _)); exact BK289.out)) : gb289 ≠ gb290)); have n6_ := Aside0.mk ((by rw [hg]; exact Nat.ne_of_gt (blk_lt (g := gb289) (o := .cells #[.string a0_0, .int .i64 a0_1] 23 (0, 0)) (by (with_reducible repeat (first | refine blk_drewN ?_ _ | refine blk_drew ?_ | refine blk_alloc ?_ _)); exact BK289.out)) : gb290 ≠ gb289)); clear BK289; clear HB; have BK289 := n0_; have HB := n1_; have BK290 := n2_; have GW290 := n3_; have GE290 := n4_; have NB289_290 := n5_; have NB290_289 := n6_; clear n0_ n1_ n2_ n3_ n4_ n5_ n6_; clear hb hbox hg))
  repeat (go_quiet (first | ((with_reducible refine gate_dst (N := 2) rfl ?_); (try (refine gate_guard (by rfl) ?_; dsimp only)); refine box_event ?hg (N := 2) ?hd (cs := #[.string a0_0, .int .i64 a0_1]) (t := 23) ?hr ?_; (case hd => rfl); (case hg => rfl); (case hr => first | (go_simp; done) | (go_simp; rfl)); intro gb289 hg w3 hbox hb; have n0_ := Aside0.mk (below_step (by repeat (first | (with_reducible first | exact HB.out | apply below_alloc | apply pw_below_drewN | apply below_drew1) | exact HB.out)) hb); have n1_ := Aside0.mk (hbox); have n2_ := Aside0.mk ((by rw [hg]; exact (below_size (by repeat (first | (with_reducible first | exact HB.out | apply below_alloc | apply pw_below_drewN | apply below_drew1) | exact HB.out))) : w.heap.size ≤ gb289)); have n3_ := Aside0.mk ((by rw [hg]; exact (below_size (by repeat (first | (with_reducible first | exact HB.out | apply below_alloc | apply pw_below_drewN | apply below_drew1) | exact HB.out))) : w.heap.size ≤ gb289)); clear HB; have HB := n0_; have BK289 := n1_; have GW289 := n2_; have GE289 := n3_; clear n0_ n1_ n2_ n3_; clear hb hbox hg) | ((with_reducible refine gate_dst (N := 3) rfl ?_); (try (refine gate_guard (by rfl) ?_; dsimp only)); refine box_event ?hg (N := 3) ?hd (cs := #[.string a1_0, .int .i64 a1_1]) (t := 23) ?hr ?_; (case hd => rfl); (case hg => rfl); (case hr => first | (go_simp; done) | (go_simp; rfl)); intro gb290 hg w4 hbox hb; have n0_ := Aside0.mk (blk_below (g := gb289) (o := .cells #[.string a0_0, .int .i64 a0_1] 23 (0, 0)) (by (with_reducible repeat (first | refine blk_drewN ?_ _ | refine blk_drew ?_ | refine blk_alloc ?_ _)); exact BK289.out) hb); have n1_ := Aside0.mk (below_step (by repeat (first | (with_reducible first | exact HB.out | apply below_alloc | apply pw_below_drewN | apply below_drew1 | refine below_set ?_ GE289.out) | exact HB.out)) hb); have n2_ := Aside0.mk (hbox); have n3_ := Aside0.mk ((by rw [hg]; exact (below_size (by repeat (first | (with_reducible first | exact HB.out | apply below_alloc | apply pw_below_drewN | apply below_drew1 | refine below_set ?_ GE289.out) | exact HB.out))) : w.heap.size ≤ gb290)); have n4_ := Aside0.mk ((by rw [hg]; exact (below_size (by repeat (first | (with_reducible first | exact HB.out | apply below_alloc | apply pw_below_drewN | apply below_drew1 | refine below_set ?_ GE289.out) | exact HB.out))) : w.heap.size ≤ gb290)); have n5_ := Aside0.mk ((by rw [hg]; exact Nat.ne_of_lt (blk_lt (g := gb289) (o := .cells #[.string a0_0, .int .i64 a0_1] 23 (0, 0)) (by (with_reducible repeat (first | refine blk_drewN ?_ _ | refine blk_drew ?_ | refine blk_alloc ?_ _)); exact BK289.out)) : gb289 ≠ gb290)); have n6_ := Aside0.mk ((by rw [hg]; exact Nat.ne_of_gt (blk_lt (g := gb289) (o := .cells #[.string a0_0, .int .i64 a0_1] 23 (0, 0)) (by (with_reducible repeat (first | refine blk_drewN ?_ _ | refine blk_drew ?_ | refine blk_alloc ?_ _)); exact BK289.out)) : gb290 ≠ gb289)); clear BK289; clear HB; have BK289 := n0_; have HB := n1_; have BK290 := n2_; have GW290 := n3_; have GE290 := n4_; have NB289_290 := n5_; have NB290_289 := n6_; clear n0_ n1_ n2_ n3_ n4_ n5_ n6_; clear hb hbox hg)); try go_wp2_with (first | ((with_reducible refine gate_dst (N := 2) rfl ?_); (try (refine gate_guard (by rfl) ?_; dsimp only)); refine box_event ?hg (N := 2) ?hd (cs := #[.string a0_0, .int .i64 a0_1]) (t := 23) ?hr ?_; (case hd => rfl); (case hg => rfl); (case hr => first | (go_simp; done) | (go_simp; rfl)); intro gb289 hg w3 hbox hb; have n0_ := Aside0.mk (below_step (by repeat (first | (with_reducible first | exact HB.out | apply below_alloc | apply pw_below_drewN | apply below_drew1) | exact HB.out)) hb); have n1_ := Aside0.mk (hbox); have n2_ := Aside0.mk ((by rw [hg]; exact (below_size (by repeat (first | (with_reducible first | exact HB.out | apply below_alloc | apply pw_below_drewN | apply below_drew1) | exact HB.out))) : w.heap.size ≤ gb289)); have n3_ := Aside0.mk ((by rw [hg]; exact (below_size (by repeat (first | (with_reducible first | exact HB.out | apply below_alloc | apply pw_below_drewN | apply below_drew1) | exact HB.out))) : w.heap.size ≤ gb289)); clear HB; have HB := n0_; have BK289 := n1_; have GW289 := n2_; have GE289 := n3_; clear n0_ n1_ n2_ n3_; clear hb hbox hg) | ((with_reducible refine gate_dst (N := 3) rfl ?_); (try (refine gate_guard (by rfl) ?_; dsimp only)); refine box_event ?hg (N := 3) ?hd (cs := #[.string a1_0, .int .i64 a1_1]) (t := 23) ?hr ?_; (case hd => rfl); (case hg => rfl); (case hr => first | (go_simp; done) | (go_simp; rfl)); intro gb290 hg w4 hbox hb; have n0_ := Aside0.mk (blk_below (g := gb289) (o := .cells #[.string a0_0, .int .i64 a0_1] 23 (0, 0)) (by (with_reducible repeat (first | refine blk_drewN ?_ _ | refine blk_drew ?_ | refine blk_alloc ?_ _)); exact BK289.out) hb); have n1_ := Aside0.mk (below_step (by repeat (first | (with_reducible first | exact HB.out | apply below_alloc | apply pw_below_drewN | apply below_drew1 | refine below_set ?_ GE289.out) | exact HB.out)) hb); have n2_ := Aside0.mk (hbox); have n3_ := Aside0.mk ((by rw [hg]; exact (below_size (by repeat (first | (with_reducible first | exact HB.out | apply below_alloc | apply pw_below_drewN | apply below_drew1 | refine below_set ?_ GE289.out) | exact HB.out))) : w.heap.size ≤ gb290)); have n4_ := Aside0.mk ((by rw [hg]; exact (below_size (by repeat (first | (with_reducible first | exact HB.out | apply below_alloc | apply pw_below_drewN | apply below_drew1 | refine below_set ?_ GE289.out) | exact HB.out))) : w.heap.size ≤ gb290)); have n5_ := Aside0.mk ((by rw [hg]; exact Nat.ne_of_lt (blk_lt (g := gb289) (o := .cells #[.string a0_0, .int .i64 a0_1] 23 (0, 0)) (by (with_reducible repeat (first | refine blk_drewN ?_ _ | refine blk_drew ?_ | refine blk_alloc ?_ _)); exact BK289.out)) : gb289 ≠ gb290)); have n6_ := Aside0.mk ((by rw [hg]; exact Nat.ne_of_gt (blk_lt (g := gb289) (o := .cells #[.string a0_0, .int .i64 a0_1] 23 (0, 0)) (by (with_reducible repeat (first | refine blk_drewN ?_ _ | refine blk_drew ?_ | refine blk_alloc ?_ _)); exact BK289.out)) : gb290 ≠ gb289)); clear BK289; clear HB; have BK289 := n0_; have HB := n1_; have BK290 := n2_; have GW290 := n3_; have GE290 := n4_; have NB289_290 := n5_; have NB290_289 := n6_; clear n0_ n1_ n2_ n3_ n4_ n5_ n6_; clear hb hbox hg)))
  go_loopg [5] k (fun kq v5 w' => ∃ (x5_1 : Int), v5 = .int .i64 x5_1 ∧ Aside0 (squelchref04_Less.l0 kq x5_1 a0_0 a0_1 a1_0 a1_1 = some r) ∧ Aside0 (kq ≤ k) ∧ Aside0 (w'.heap[gb289]? = some (.cells #[.string a0_0, .int .i64 a0_1] 23 (0, 0))) ∧ Aside0 (w'.heap[gb290]? = some (.cells #[.string a1_0, .int .i64 a1_1] 23 (0, 0))) ∧ Aside0 (Below w.heap.size w w'))
  case atStart => exact ⟨(0), (by first | rfl | (simp; done) | (simp [*]; done)), H', ⟨Nat.le_refl _⟩, ⟨by (with_reducible repeat (first | refine blk_drewN ?_ _ | refine blk_drew ?_ | refine blk_alloc ?_ _)); exact BK289.out⟩, ⟨by (with_reducible repeat (first | refine blk_drewN ?_ _ | refine blk_drew ?_ | refine blk_alloc ?_ _)); exact BK290.out⟩, ⟨by repeat (first | (with_reducible first | exact HB.out | apply below_alloc | apply pw_below_drewN | apply below_drew1 | refine below_set ?_ GE289.out | refine below_set ?_ GE290.out) | exact HB.out)⟩⟩
  case round =>
    clear H'
    try clear p2
    try clear c3
    obtain ⟨x5_1, rfl, HA, HK1, BK289, BK290, HB⟩ := hrel
    cases gk with
    | zero => exact absurd HA.out (by simp [squelchref04_Less.l0])
    | succ k1 =>
      have H := HA.out
      clear HA
      simp only [squelchref04_Less.l0] at H
      have HC5 := Aside0.mk H
      clear H
      go_upto_region 2 with (fail)
      repeat (go_quiet (fail); go_upto_region 2 with (fail))
      go_cut [17] (fun v17 wc => ∃ (kq : Nat) (x17_4 : Bool), v17 = .bool x17_4 ∧ Aside0 (squelchref04_Less.j1 kq x5_1 x17_4 a0_0 a0_1 a1_0 a1_1 = some r) ∧ Aside0 (kq ≤ k1) ∧ Aside0 (wc.heap[gb289]? = some (.cells #[.string a0_0, .int .i64 a0_1] 23 (0, 0))) ∧ Aside0 (wc.heap[gb290]? = some (.cells #[.string a1_0, .int .i64 a1_1] 23 (0, 0))) ∧ Aside0 (Below w.heap.size w wc))
      case first =>
        have H := HC5.out
        clear HC5
        by_cases c6 : x5_1 < (a0_0.size : Int)
        · rw [if_pos c6] at H
          have c6b0 : decide (x5_1 < (a0_0.size : Int)) = true := decide_eq_true c6
          clear c6
          (first | rw [c6b0] | (simp only [i64_w, i32_w]; rw [c6b0]) | skip)
          have H' := Aside0.mk H
          clear H
          have hnb7 := NB289_290.out
          have hnc7 := NB290_289.out
          have hcz8_0 : wr.cell? ⟨gb289, 0, none⟩ = some (.string a0_0) := (blk_cell BK289.out 0).trans rfl
          have hcz8_1 : wr.cell? ⟨gb289, 1, none⟩ = some (.int .i64 a0_1) := (blk_cell BK289.out 1).trans rfl
          have hfz8_0 := blk_frozen BK289.out 0
          have hfz8_1 := blk_frozen BK289.out 1
          have hcz9_0 : wr.cell? ⟨gb290, 0, none⟩ = some (.string a1_0) := (blk_cell BK290.out 0).trans rfl
          have hcz9_1 : wr.cell? ⟨gb290, 1, none⟩ = some (.int .i64 a1_1) := (blk_cell BK290.out 1).trans rfl
          have hfz9_0 := blk_frozen BK290.out 0
          have hfz9_1 := blk_frozen BK290.out 1
          go_wp2
          repeat (go_quiet (fail); try go_wp2)
          go_meet
          case rel => exact ⟨_, (decide (x5_1 < (a1_0.size : Int))), (by first | rfl | (simp; done) | (simp [*]; done)), H', ⟨by have := HK1.out; first | omega | exact Nat.le_refl _⟩, ⟨by (with_reducible repeat (first | refine blk_drewN ?_ _ | refine blk_drew ?_ | refine blk_alloc ?_ _)); exact BK289.out⟩, ⟨by (with_reducible repeat (first | refine blk_drewN ?_ _ | refine blk_drew ?_ | refine blk_alloc ?_ _)); exact BK290.out⟩, ⟨by repeat (first | (with_reducible first | exact HB.out | apply below_alloc | apply pw_below_drewN | apply below_drew1 | refine below_set ?_ GE289.out | refine below_set ?_ GE290.out) | exact HB.out)⟩⟩
        · rw [if_neg c6] at H
          have c6b0 : decide (x5_1 < (a0_0.size : Int)) = false := decide_eq_false c6
          clear c6
          (first | rw [c6b0] | (simp only [i64_w, i32_w]; rw [c6b0]) | skip)
          have H' := Aside0.mk H
          clear H
          have hnb10 := NB289_290.out
          have hnc10 := NB290_289.out
          have hcz11_0 : wr.cell? ⟨gb289, 0, none⟩ = some (.string a0_0) := (blk_cell BK289.out 0).trans rfl
          have hcz11_1 : wr.cell? ⟨gb289, 1, none⟩ = some (.int .i64 a0_1) := (blk_cell BK289.out 1).trans rfl
          have hfz11_0 := blk_frozen BK289.out 0
          have hfz11_1 := blk_frozen BK289.out 1
          go_wp2
          repeat (go_quiet (fail); try go_wp2)
          go_meet
          case rel => exact ⟨_, (false), (by first | rfl | (simp; done) | (simp [*]; done)), H', ⟨by have := HK1.out; first | omega | exact Nat.le_refl _⟩, ⟨by (with_reducible repeat (first | refine blk_drewN ?_ _ | refine blk_drew ?_ | refine blk_alloc ?_ _)); exact BK289.out⟩, ⟨by (with_reducible repeat (first | refine blk_drewN ?_ _ | refine blk_drew ?_ | refine blk_alloc ?_ _)); exact BK290.out⟩, ⟨by repeat (first | (with_reducible first | exact HB.out | apply below_alloc | apply pw_below_drewN | apply below_drew1 | refine below_set ?_ GE289.out | refine below_set ?_ GE290.out) | exact HB.out)⟩⟩
      case rest =>
        clear HC5
        try clear c1
        try clear p2
        try clear c3
        try clear c6
        try clear c6b0
        try clear c7
        try clear c10
        try clear hcz11_0
        try clear hcz11_1
        try clear hcz8_0
        try clear hcz8_1
        try clear hcz9_0
        try clear hcz9_1
        try clear hfz11_0
        try clear hfz11_1
        try clear hfz8_0
        try clear hfz8_1
        try clear hfz9_0
        try clear hfz9_1
        try clear p2
        obtain ⟨kq, x17_4, rfl, HA, HJ4, BK289, BK290, HB⟩ := hcut
        cases kq with
        | zero => exact absurd HA.out (by simp [squelchref04_Less.j1])
        | succ kj4 =>
          have H := HA.out
          clear HA
          simp only [squelchref04_Less.j1] at H
          by_cases c12 : x17_4 = true
          · subst c12
            have H1 : (if 0 ≤ x5_1 then (if x5_1 < (a0_0.size : Int) then (if x5_1 < (a1_0.size : Int) then (if (bt a0_0 x5_1) = (bt a1_0 x5_1) then (squelchref04_Less.l0 kj4 (wrap64 (x5_1 + 1)) a0_0 a0_1 a1_0 a1_1) else (some (decide ((bt a0_0 x5_1) < (bt a1_0 x5_1))))) else (none)) else (none)) else (none)) = some r := by rw [if_pos rfl] at H; exact H
            clear H
            have H := H1
            clear H1
            by_cases c13 : 0 ≤ x5_1
            · rw [if_pos c13] at H
              have c13b0 : decide (0 ≤ x5_1) = true := decide_eq_true c13
              clear c13
              by_cases c14 : x5_1 < (a0_0.size : Int)
              · rw [if_pos c14] at H
                have c14b0 : decide (x5_1 < (a0_0.size : Int)) = true := decide_eq_true c14
                clear c14
                by_cases c16 : x5_1 < (a1_0.size : Int)
                · rw [if_pos c16] at H
                  have c16b0 : decide (x5_1 < (a1_0.size : Int)) = true := decide_eq_true c16
                  clear c16
                  by_cases c18 : (bt a0_0 x5_1) = (bt a1_0 x5_1)
                  · rw [if_pos c18] at H
                    have c18b0 : ((bt a0_0 x5_1) == (bt a1_0 x5_1)) = true := beq_iff_eq.mpr c18
                    have c18b1 : ((bt a0_0 x5_1) != (bt a1_0 x5_1)) = false := bne_eq_false_iff_eq.mpr c18
                    clear c18
                    have H' := Aside0.mk H
                    clear H
                    have hnb19 := NB289_290.out
                    have hnc19 := NB290_289.out
                    have hcz20_0 : wc.cell? ⟨gb289, 0, none⟩ = some (.string a0_0) := (blk_cell BK289.out 0).trans rfl
                    have hcz20_1 : wc.cell? ⟨gb289, 1, none⟩ = some (.int .i64 a0_1) := (blk_cell BK289.out 1).trans rfl
                    have hfz20_0 := blk_frozen BK289.out 0
                    have hfz20_1 := blk_frozen BK289.out 1
                    have p15 : 0 ≤ (x5_1 : Int) := of_decide_eq_true (by first | (with_reducible assumption) | assumption)
                    have q15 : x5_1 < (a0_0.size : Int) := of_decide_eq_true (by first | (with_reducible assumption) | assumption)
                    have hx15 := bt_at a0_0 x5_1
                    replace p15 := eq_true p15
                    replace q15 := eq_true q15
                    have hcz21_0 : wc.cell? ⟨gb290, 0, none⟩ = some (.string a1_0) := (blk_cell BK290.out 0).trans rfl
                    have hcz21_1 : wc.cell? ⟨gb290, 1, none⟩ = some (.int .i64 a1_1) := (blk_cell BK290.out 1).trans rfl
                    have hfz21_0 := blk_frozen BK290.out 0
                    have hfz21_1 := blk_frozen BK290.out 1
                    have p17 : 0 ≤ (x5_1 : Int) := of_decide_eq_true (by first | (with_reducible assumption) | assumption)
                    have q17 : x5_1 < (a1_0.size : Int) := of_decide_eq_true (by first | (with_reducible assumption) | assumption)
                    have hx17 := bt_at a1_0 x5_1
                    replace p17 := eq_true p17
                    replace q17 := eq_true q17
                    go_wp2
                    repeat (go_quiet (fail); try go_wp2)
                    go_roundg kj4
                    case measure => have := HK1.out; have := HJ4.out; omega
                    case rel => exact ⟨(wrap64 (x5_1 + 1)), (by first | rfl | (simp; done) | (simp [*]; done)), H', ⟨by have := HK1.out; have := HJ4.out; omega⟩, ⟨by (with_reducible repeat (first | refine blk_drewN ?_ _ | refine blk_drew ?_ | refine blk_alloc ?_ _)); exact BK289.out⟩, ⟨by (with_reducible repeat (first | refine blk_drewN ?_ _ | refine blk_drew ?_ | refine blk_alloc ?_ _)); exact BK290.out⟩, ⟨by repeat (first | (with_reducible first | exact HB.out | apply below_alloc | apply pw_below_drewN | apply below_drew1 | refine below_set ?_ GE289.out | refine below_set ?_ GE290.out) | exact HB.out)⟩⟩
                  · rw [if_neg c18] at H
                    have c18b0 : ((bt a0_0 x5_1) == (bt a1_0 x5_1)) = false := beq_eq_false_iff_ne.mpr c18
                    have c18b1 : ((bt a0_0 x5_1) != (bt a1_0 x5_1)) = true := bne_iff_ne.mpr c18
                    obtain rfl := Option.some.inj H
                    have hnb24 := NB289_290.out
                    have hnc24 := NB290_289.out
                    have hcz25_0 : wc.cell? ⟨gb289, 0, none⟩ = some (.string a0_0) := (blk_cell BK289.out 0).trans rfl
                    have hcz25_1 : wc.cell? ⟨gb289, 1, none⟩ = some (.int .i64 a0_1) := (blk_cell BK289.out 1).trans rfl
                    have hfz25_0 := blk_frozen BK289.out 0
                    have hfz25_1 := blk_frozen BK289.out 1
                    have p15 : 0 ≤ (x5_1 : Int) := of_decide_eq_true (by first | (with_reducible assumption) | assumption)
                    have q15 : x5_1 < (a0_0.size : Int) := of_decide_eq_true (by first | (with_reducible assumption) | assumption)
                    have hx15 := bt_at a0_0 x5_1
                    replace p15 := eq_true p15
                    replace q15 := eq_true q15
                    have hcz26_0 : wc.cell? ⟨gb290, 0, none⟩ = some (.string a1_0) := (blk_cell BK290.out 0).trans rfl
                    have hcz26_1 : wc.cell? ⟨gb290, 1, none⟩ = some (.int .i64 a1_1) := (blk_cell BK290.out 1).trans rfl
                    have hfz26_0 := blk_frozen BK290.out 0
                    have hfz26_1 := blk_frozen BK290.out 1
                    have p17 : 0 ≤ (x5_1 : Int) := of_decide_eq_true (by first | (with_reducible assumption) | assumption)
                    have q17 : x5_1 < (a1_0.size : Int) := of_decide_eq_true (by first | (with_reducible assumption) | assumption)
                    have hx17 := bt_at a1_0 x5_1
                    replace p17 := eq_true p17
                    replace q17 := eq_true q17
                    have p22 : 0 ≤ (x5_1 : Int) := of_decide_eq_true (by first | (with_reducible assumption) | assumption)
                    have q22 : x5_1 < (a0_0.size : Int) := of_decide_eq_true (by first | (with_reducible assumption) | assumption)
                    have hx22 := bt_at a0_0 x5_1
                    replace p22 := eq_true p22
                    replace q22 := eq_true q22
                    have p23 : 0 ≤ (x5_1 : Int) := of_decide_eq_true (by first | (with_reducible assumption) | assumption)
                    have q23 : x5_1 < (a1_0.size : Int) := of_decide_eq_true (by first | (with_reducible assumption) | assumption)
                    have hx23 := bt_at a1_0 x5_1
                    replace p23 := eq_true p23
                    replace q23 := eq_true q23
                    go_wp2
                    repeat (go_quiet (fail); try go_wp2)
                    go_ret
                    exact ⟨by first | rfl | (simp [errW_none, errW_some] <;> rfl) | (simp [*, errW_none, errW_some] <;> rfl), by repeat (first | (with_reducible first | exact HB.out | apply below_alloc | apply pw_below_drewN | apply below_drew1 | refine below_set ?_ GE289.out | refine below_set ?_ GE290.out) | exact HB.out)⟩
                · rw [if_neg c16] at H
                  exact absurd H (by simp)
              · rw [if_neg c14] at H
                exact absurd H (by simp)
            · rw [if_neg c13] at H
              exact absurd H (by simp)
          · replace c12 := Bool.eq_false_iff.mpr c12
            subst c12
            have H1 : (if (a0_0.size : Int) = (a1_0.size : Int) then (some (decide (a0_1 < a1_1))) else (some (decide ((a0_0.size : Int) < (a1_0.size : Int))))) = some r := by rw [if_neg (show ¬ (false = true) by decide)] at H; exact H
            clear H
            have H := H1
            clear H1
            by_cases c27 : (a0_0.size : Int) = (a1_0.size : Int)
            · rw [if_pos c27] at H
              have c27b0 : ((a0_0.size : Int) == (a1_0.size : Int)) = true := beq_iff_eq.mpr c27
              have c27b1 : ((a0_0.size : Int) != (a1_0.size : Int)) = false := bne_eq_false_iff_eq.mpr c27
              have c27b2 : (a0_0.size == a1_0.size) = true := by first | simpa using c27 | (simp at c27 ⊢; omega)
              clear c27
              obtain rfl := Option.some.inj H
              have hnb28 := NB289_290.out
              have hnc28 := NB290_289.out
              have hcz29_0 : wc.cell? ⟨gb289, 0, none⟩ = some (.string a0_0) := (blk_cell BK289.out 0).trans rfl
              have hcz29_1 : wc.cell? ⟨gb289, 1, none⟩ = some (.int .i64 a0_1) := (blk_cell BK289.out 1).trans rfl
              have hfz29_0 := blk_frozen BK289.out 0
              have hfz29_1 := blk_frozen BK289.out 1
              have hcz30_0 : wc.cell? ⟨gb290, 0, none⟩ = some (.string a1_0) := (blk_cell BK290.out 0).trans rfl
              have hcz30_1 : wc.cell? ⟨gb290, 1, none⟩ = some (.int .i64 a1_1) := (blk_cell BK290.out 1).trans rfl
              have hfz30_0 := blk_frozen BK290.out 0
              have hfz30_1 := blk_frozen BK290.out 1
              go_wp2
              repeat (go_quiet (fail); try go_wp2)
              go_ret
              exact ⟨by first | rfl | (simp [errW_none, errW_some] <;> rfl) | (simp [*, errW_none, errW_some] <;> rfl), by repeat (first | (with_reducible first | exact HB.out | apply below_alloc | apply pw_below_drewN | apply below_drew1 | refine below_set ?_ GE289.out | refine below_set ?_ GE290.out) | exact HB.out)⟩
            · rw [if_neg c27] at H
              have c27b0 : ((a0_0.size : Int) == (a1_0.size : Int)) = false := beq_eq_false_iff_ne.mpr c27
              have c27b1 : ((a0_0.size : Int) != (a1_0.size : Int)) = true := bne_iff_ne.mpr c27
              have c27b2 : (a0_0.size == a1_0.size) = false := by first | simpa using c27 | (simp at c27 ⊢; omega)
              obtain rfl := Option.some.inj H
              have hnb31 := NB289_290.out
              have hnc31 := NB290_289.out
              have hcz32_0 : wc.cell? ⟨gb289, 0, none⟩ = some (.string a0_0) := (blk_cell BK289.out 0).trans rfl
              have hcz32_1 : wc.cell? ⟨gb289, 1, none⟩ = some (.int .i64 a0_1) := (blk_cell BK289.out 1).trans rfl
              have hfz32_0 := blk_frozen BK289.out 0
              have hfz32_1 := blk_frozen BK289.out 1
              have hcz33_0 : wc.cell? ⟨gb290, 0, none⟩ = some (.string a1_0) := (blk_cell BK290.out 0).trans rfl
              have hcz33_1 : wc.cell? ⟨gb290, 1, none⟩ = some (.int .i64 a1_1) := (blk_cell BK290.out 1).trans rfl
              have hfz33_0 := blk_frozen BK290.out 0
              have hfz33_1 := blk_frozen BK290.out 1
              go_wp2
              repeat (go_quiet (fail); try go_wp2)
              go_ret
              exact ⟨by first | rfl | (simp [errW_none, errW_some] <;> rfl) | (simp [*, errW_none, errW_some] <;> rfl), by repeat (first | (with_reducible first | exact HB.out | apply below_alloc | apply pw_below_drewN | apply below_drew1 | refine below_set ?_ GE289.out | refine below_set ?_ GE290.out) | exact HB.out)⟩

end Go.Proofs.YtpmieapgbdbabaaDoor.QAll
