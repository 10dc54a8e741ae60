/- Walks, written by a program of this session (wip/pp): a Go function comes to what the Lean function beside it tells. -/
import Derived.Test.YtpmieapgbdbabaaDoorQAllx0
import Derived.Test.YtpmieapgbdbabaaDoorQAllxE23
import Derived.Test.YtpmieapgbdbabaaDoorQAllxF39
import Derived.Test.YtpmieapgbdbabaaDoorQAllxF53
import Derived.Test.YtpmieapgbdbabaaDoorQAllxF55
import Derived.Test.YtpmieapgbdbabaaDoorQAllxF36
import Derived.Test.YtpmieapgbdbabaaDoorHEnv
import Derived.Test.YtpmieapgbdbabaaDoorHGet
import Derived.Test.YtpmieapgbdbabaaDoorHPut
namespace Go.Proofs.YtpmieapgbdbabaaDoor.QAll
open Go.RowKit Go.Proofs.YtpmieapgbdbabaaDoorW.PrintWords Go.Proofs.YtpmieapgbdbabaaDoorW.PrintLast Go.Proofs.YtpmieapgbdbabaaDoorW.PrintMore
attribute [local go_sem] max2_int min2_int max_two min_two max_three min_three max_four min_four   -- for this text's walks alone
set_option linter.unusedVariables false
set_option linter.unusedSimpArgs false

attribute [local go_sem high] eqA23
/-! ### squelchlaw04_CallBytes: function 12 -/
mutual
def squelchlaw04_CallBytes.j0 : Nat → ByteArray → Bool → ByteArray → Int → Bool → Bool → Option (Bool)
  | 0, _, _, _, _, _, _ => none
  | k + 1, x2, x32, x426000, x426001, x427000, x427001 => if x32 = true then (some true) else ((call_Put.f x426000 x426001 x427000 x427001).bind fun bt428 => ((squelchref04_Right.f k x426000 x426001).bind fun t430 => (if t430 = true then (if bt428.2 = 0 then ((squelchref04_Put.f k x426000 x426001 x427000 x427001).bind fun t431 => (squelchlaw04_CallBytes.j1 k x2 bt428.1 (bt428.1.toList != t431.toList) x426000 x426001 x427000 x427001)) else (squelchlaw04_CallBytes.j1 k x2 bt428.1 true x426000 x426001 x427000 x427001)) else (if bt428.1.toList = ([] : List UInt8) then (if bt428.2 = 12 then (squelchlaw04_CallBytes.j2 k x2) else (some false)) else (some false)))))
def squelchlaw04_CallBytes.j2 : Nat → ByteArray → Option (Bool)
  | 0, _ => none
  | k + 1, x2 => (call_Get.f x2).bind fun bt438 => ((squelchref04_Get.f k x2).bind fun bt444 => (if bt444.2.2.2.2 = true then (if (bt438.1.toList == bt444.1.toList && (bt438.2.1 == bt444.2.1)) = true then (if (bt438.2.2.1 == bt444.2.2.1) = true then (if (bt438.2.2.2.1 == bt444.2.2.2.1) = true then (some (bt438.2.2.2.2 == 0)) else (some false)) else (some false)) else (some false)) else (if (x2.size : Int) < 7 then (if (bt438.1.toList == bt444.1.toList && (bt438.2.1 == bt444.2.1)) = true then (if (bt438.2.2.1 == bt444.2.2.1) = true then (if (bt438.2.2.2.1 == bt444.2.2.2.1) = true then (some (bt438.2.2.2.2 == 4)) else (some false)) else (some false)) else (some false)) else (if (x2.size : Int) > 7 then (if (bt438.1.toList == bt444.1.toList && (bt438.2.1 == bt444.2.1)) = true then (if (bt438.2.2.1 == bt444.2.2.1) = true then (if (bt438.2.2.2.1 == bt444.2.2.2.1) = true then (some (bt438.2.2.2.2 == 5)) else (some false)) else (some false)) else (some false)) else (if (bt438.1.toList == bt444.1.toList && (bt438.2.1 == bt444.2.1)) = true then (if (bt438.2.2.1 == bt444.2.2.1) = true then (if (bt438.2.2.2.1 == bt444.2.2.2.1) = true then (some (bt438.2.2.2.2 == 2)) else (some false)) else (some false)) else (some false))))))
def squelchlaw04_CallBytes.j1 : Nat → ByteArray → ByteArray → Bool → ByteArray → Int → Bool → Bool → Option (Bool)
  | 0, _, _, _, _, _, _, _ => none
  | k + 1, x2, x7, x62, x426000, x426001, x427000, x427001 => if x62 = true then (some false) else ((call_Get.f x7).bind fun bt432 => (if (!(bt432.1.toList == x426000.toList) || (!(bt432.2.1 == x426001))) = true then (some false) else (if (bt432.2.2.1 != x427000) = true then (some false) else (if (bt432.2.2.2.1 != x427001) = true then (some false) else (if bt432.2.2.2.2 = 0 then (squelchlaw04_CallBytes.j2 k x2) else (some false))))))
end
def squelchlaw04_CallBytes.f (k : Nat) (a0_0 : ByteArray) (a0_1 : Int) (a1_0 : Bool) (a1_1 : Bool) (a2 : ByteArray) : Option (Bool) := (squelchlaw04_awake.f).bind fun t427 => (if t427 = true then (if (a0_0.size : Int) > 100 then (squelchlaw04_CallBytes.j0 k a2 true a0_0 a0_1 a1_0 a1_1) else (squelchlaw04_CallBytes.j0 k a2 (decide ((a2.size : Int) > 100)) a0_0 a0_1 a1_0 a1_1)) else (some false))
theorem squelchlaw04_CallBytes.mono_l : ∀ k, (∀ y0 y1 y2 y3 y4 y5, LeO (squelchlaw04_CallBytes.j0 k y0 y1 y2 y3 y4 y5) (squelchlaw04_CallBytes.j0 (k + 1) y0 y1 y2 y3 y4 y5)) ∧ (∀ y0, LeO (squelchlaw04_CallBytes.j2 k y0) (squelchlaw04_CallBytes.j2 (k + 1) y0)) ∧ (∀ y0 y1 y2 y3 y4 y5 y6, LeO (squelchlaw04_CallBytes.j1 k y0 y1 y2 y3 y4 y5 y6) (squelchlaw04_CallBytes.j1 (k + 1) y0 y1 y2 y3 y4 y5 y6))
  | 0 => ⟨fun _ _ _ _ _ _ r h => by simp [squelchlaw04_CallBytes.j0] at h, fun _ r h => by simp [squelchlaw04_CallBytes.j2] at h, fun _ _ _ _ _ _ _ r h => by simp [squelchlaw04_CallBytes.j1] at h⟩
  | k + 1 => by
    obtain ⟨ih0, ih1, ih2⟩ := squelchlaw04_CallBytes.mono_l k
    refine ⟨?_, ?_, ?_⟩
    · intro y0 y1 y2 y3 y4 y5
      unfold squelchlaw04_CallBytes.j0
      repeat' first
      | (with_reducible exact ih0 _ _ _ _ _ _)
      | (with_reducible exact ih1 _)
      | (with_reducible exact ih2 _ _ _ _ _ _ _)
      | (with_reducible exact squelchref04_Get.mono _ _)
      | (with_reducible exact squelchref04_Put.mono _ _ _ _ _)
      | (with_reducible exact squelchref04_Right.mono _ _ _)
      | (with_reducible exact LeO.refl _)
      | (with_reducible exact LeO.none _)
      | (with_reducible refine LeO.ite ?_ ?_)
      | (with_reducible refine LeO.bind ?_ (fun _ => ?_))
      | exact ih0 _ _ _ _ _ _
      | exact ih1 _
      | exact ih2 _ _ _ _ _ _ _
      | exact squelchref04_Get.mono _ _
      | exact squelchref04_Put.mono _ _ _ _ _
      | exact squelchref04_Right.mono _ _ _
      | exact LeO.none _
      | refine LeO.ite ?_ ?_
      | refine LeO.bind ?_ (fun _ => ?_)
    · intro y0
      unfold squelchlaw04_CallBytes.j2
      repeat' first
      | (with_reducible exact ih0 _ _ _ _ _ _)
      | (with_reducible exact ih1 _)
      | (with_reducible exact ih2 _ _ _ _ _ _ _)
      | (with_reducible exact squelchref04_Get.mono _ _)
      | (with_reducible exact squelchref04_Put.mono _ _ _ _ _)
      | (with_reducible exact squelchref04_Right.mono _ _ _)
      | (with_reducible exact LeO.refl _)
      | (with_reducible exact LeO.none _)
      | (with_reducible refine LeO.ite ?_ ?_)
      | (with_reducible refine LeO.bind ?_ (fun _ => ?_))
      | exact ih0 _ _ _ _ _ _
      | exact ih1 _
      | exact ih2 _ _ _ _ _ _ _
      | exact squelchref04_Get.mono _ _
      | exact squelchref04_Put.mono _ _ _ _ _
      | exact squelchref04_Right.mono _ _ _
      | exact LeO.none _
      | refine LeO.ite ?_ ?_
      | refine LeO.bind ?_ (fun _ => ?_)
    · intro y0 y1 y2 y3 y4 y5 y6
      unfold squelchlaw04_CallBytes.j1
      repeat' first
      | (with_reducible exact ih0 _ _ _ _ _ _)
      | (with_reducible exact ih1 _)
      | (with_reducible exact ih2 _ _ _ _ _ _ _)
      | (with_reducible exact squelchref04_Get.mono _ _)
      | (with_reducible exact squelchref04_Put.mono _ _ _ _ _)
      | (with_reducible exact squelchref04_Right.mono _ _ _)
      | (with_reducible exact LeO.refl _)
      | (with_reducible exact LeO.none _)
      | (with_reducible refine LeO.ite ?_ ?_)
      | (with_reducible refine LeO.bind ?_ (fun _ => ?_))
      | exact ih0 _ _ _ _ _ _
      | exact ih1 _
      | exact ih2 _ _ _ _ _ _ _
      | exact squelchref04_Get.mono _ _
      | exact squelchref04_Put.mono _ _ _ _ _
      | exact squelchref04_Right.mono _ _ _
      | exact LeO.none _
      | refine LeO.ite ?_ ?_
      | refine LeO.bind ?_ (fun _ => ?_)
theorem squelchlaw04_CallBytes.mono : ∀ a0 a1 a2 a3 a4 k, LeO (squelchlaw04_CallBytes.f k a0 a1 a2 a3 a4) (squelchlaw04_CallBytes.f (k + 1) a0 a1 a2 a3 a4) := by
  intro a0 a1 a2 a3 a4 k
  obtain ⟨ih0, ih1, ih2⟩ := squelchlaw04_CallBytes.mono_l k
  unfold squelchlaw04_CallBytes.f
  repeat' first
      | (with_reducible exact ih0 _ _ _ _ _ _)
      | (with_reducible exact ih1 _)
      | (with_reducible exact ih2 _ _ _ _ _ _ _)
      | (with_reducible exact squelchref04_Get.mono _ _)
      | (with_reducible exact squelchref04_Put.mono _ _ _ _ _)
      | (with_reducible exact squelchref04_Right.mono _ _ _)
      | (with_reducible exact LeO.refl _)
      | (with_reducible exact LeO.none _)
      | (with_reducible refine LeO.ite ?_ ?_)
      | (with_reducible refine LeO.bind ?_ (fun _ => ?_))
      | exact ih0 _ _ _ _ _ _
      | exact ih1 _
      | exact ih2 _ _ _ _ _ _ _
      | exact squelchref04_Get.mono _ _
      | exact squelchref04_Put.mono _ _ _ _ _
      | exact squelchref04_Right.mono _ _ _
      | exact LeO.none _
      | refine LeO.ite ?_ ?_
      | refine LeO.bind ?_ (fun _ => ?_)
set_option maxHeartbeats 8000000 in
set_option maxRecDepth 100000 in
theorem squelchlaw04_CallBytes.calls (k : Nat) (a0_0 : ByteArray) (a0_1 : Int) (a1_0 : Bool) (a1_1 : Bool) (a2 : ByteArray) (r : Bool) (w : World) (hE_ : EnvW w) (hT_ : r = true) (h : squelchlaw04_CallBytes.f k a0_0 a0_1 a1_0 a1_1 a2 = some r) :
    Calls Tryd.prog 12 #[.agg #[.string a0_0, .int .i64 a0_1], .agg #[.bool a1_0, .bool a1_1], .string a2] w fun e w' => e = .returned (.bool r) ∧ Below w.heap.size w w' := by
  have hu23 := Tryd.underlying23
  have hu81 := Tryd.underlying81
  have HB := Aside0.mk (Below.refl w.heap.size w)
  have HE := Aside0.mk hE_
  clear hE_
  have HT_ := Aside0.mk hT_
  clear hT_
  have H : ((squelchlaw04_awake.f).bind fun t427 => (if t427 = true then (if (a0_0.size : Int) > 100 then (squelchlaw04_CallBytes.j0 k a2 true a0_0 a0_1 a1_0 a1_1) else (squelchlaw04_CallBytes.j0 k a2 (decide ((a2.size : Int) > 100)) a0_0 a0_1 a1_0 a1_1)) else (some false))) = some r := h
  clear h
  replace H := Option.bind_eq_some_iff.mp H
  obtain ⟨t427, A40, H⟩ := H
  replace H : (if t427 = true then (if (a0_0.size : Int) > 100 then (squelchlaw04_CallBytes.j0 k a2 true a0_0 a0_1 a1_0 a1_1) else (squelchlaw04_CallBytes.j0 k a2 (decide ((a2.size : Int) > 100)) a0_0 a0_1 a1_0 a1_1)) else (some false)) = some r := H
  have A4 := Aside0.mk A40
  clear A40
  by_cases c5 : t427 = true
  · subst c5
    have H1 : (if (a0_0.size : Int) > 100 then (squelchlaw04_CallBytes.j0 k a2 true a0_0 a0_1 a1_0 a1_1) else (squelchlaw04_CallBytes.j0 k a2 (decide ((a2.size : Int) > 100)) a0_0 a0_1 a1_0 a1_1)) = some r := by rw [if_pos rfl] at H; exact H
    clear H
    have H := H1
    clear H1
    have HC6 := Aside0.mk H
    clear H
    go_enter Tryd.func12, Tryd.ntmps12
    go_upto_region 3 with (first | ((with_reducible refine gate_dst (N := 3) rfl ?_); (try (refine gate_guard (by rfl) ?_; dsimp only)); refine box_event ?hg (N := 3) ?hd (cs := #[.string a0_0, .int .i64 a0_1]) (t := 23) ?hr ?_; (case hd => rfl); (case hg => rfl); (case hr => first | (go_simp; done) | (go_simp; rfl)); intro gb425 hg w7 hbox hb; have n0_ := Aside0.mk (below_step (by repeat (first | (with_reducible first | exact HB.out | apply below_alloc | apply pw_below_drewN | apply below_drew1) | exact HB.out)) hb); have n1_ := Aside0.mk (hbox); have n2_ := Aside0.mk ((by rw [hg]; exact (below_size (by repeat (first | (with_reducible first | exact HB.out | apply below_alloc | apply pw_below_drewN | apply below_drew1) | exact HB.out))) : w.heap.size ≤ gb425)); have n3_ := Aside0.mk ((by rw [hg]; exact (below_size (by repeat (first | (with_reducible first | exact HB.out | apply below_alloc | apply pw_below_drewN | apply below_drew1) | exact HB.out))) : w.heap.size ≤ gb425)); clear HB; have HB := n0_; have BK425 := n1_; have GW425 := n2_; have GE425 := n3_; clear n0_ n1_ n2_ n3_; clear hb hbox hg) | ((with_reducible refine gate_dst (N := 4) rfl ?_); (try (refine gate_guard (by rfl) ?_; dsimp only)); refine box_event ?hg (N := 4) ?hd (cs := #[.bool a1_0, .bool a1_1]) (t := 81) ?hr ?_; (case hd => rfl); (case hg => rfl); (case hr => first | (go_simp; done) | (go_simp; rfl)); intro gb426 hg w8 hbox hb; have n0_ := Aside0.mk (blk_below (g := gb425) (o := .cells #[.string a0_0, .int .i64 a0_1] 23 (0, 0)) (by (with_reducible repeat (first | refine blk_drewN ?_ _ | refine blk_drew ?_ | refine blk_alloc ?_ _)); exact BK425.out) hb); have n1_ := Aside0.mk (below_step (by repeat (first | (with_reducible first | exact HB.out | apply below_alloc | apply pw_below_drewN | apply below_drew1 | refine below_set ?_ GE425.out) | exact HB.out)) hb); have n2_ := Aside0.mk (hbox); have n3_ := Aside0.mk ((by rw [hg]; exact (below_size (by repeat (first | (with_reducible first | exact HB.out | apply below_alloc | apply pw_below_drewN | apply below_drew1 | refine below_set ?_ GE425.out) | exact HB.out))) : w.heap.size ≤ gb426)); have n4_ := Aside0.mk ((by rw [hg]; exact (below_size (by repeat (first | (with_reducible first | exact HB.out | apply below_alloc | apply pw_below_drewN | apply below_drew1 | refine below_set ?_ GE425.out) | exact HB.out))) : w.heap.size ≤ gb426)); have n5_ := Aside0.mk ((by rw [hg]; exact Nat.ne_of_lt (blk_lt (g := gb425) (o := .cells #[.string a0_0, .int .i64 a0_1] 23 (0, 0)) (by (with_reducible repeat (first | refine blk_drewN ?_ _ | refine blk_drew ?_ | refine blk_alloc ?_ _)); exact BK425.out)) : gb425 ≠ gb426)); have n6_ := Aside0.mk ((by rw [hg]; exact Nat.ne_of_gt (blk_lt (g := gb425) (o := .cells #[.string a0_0, .int .i64 a0_1] 23 (0, 0)) (by (with_reducible repeat (first | refine blk_drewN ?_ _ | refine blk_drew ?_ | refine blk_alloc ?_ _)); exact BK425.out)) : gb426 ≠ gb425)); clear BK425; clear HB; have BK425 := n0_; have HB := n1_; have BK426 := n2_; have GW426 := n3_; have GE426 := n4_; have NB425_426 := n5_; have NB426_425 := n6_; clear n0_ n1_ n2_ n3_ n4_ n5_ n6_; clear hb hbox hg) | ((with_reducible refine gate_callee (f := 36) rfl ?_); refine goesL_ (some 22) rfl rfl Tryd.func36 (by kernel_rfl) rfl #[] rfl (by (try simp only [List.map_toArray, List.map_cons, List.map_nil]); first | done | rfl | (simp only [List.length_drop, List.length_take]; rfl)) ?_; (with_reducible refine (squelchlaw04_awake.calls  true _ ?side1 A4.out).mono ?_); (case side1 => exact EnvW.below HE.out (by repeat (first | (with_reducible first | exact HB.out | apply below_alloc | apply pw_below_drewN | apply below_drew1 | refine below_set ?_ GE425.out | refine below_set ?_ GE426.out) | exact HB.out))); rintro e w9 ⟨rfl, hb⟩; refine ⟨_, rfl, ?_⟩; have n0_ := Aside0.mk (blk_below (g := gb425) (o := .cells #[.string a0_0, .int .i64 a0_1] 23 (0, 0)) (by (with_reducible repeat (first | refine blk_drewN ?_ _ | refine blk_drew ?_ | refine blk_alloc ?_ _)); exact BK425.out) hb); have n1_ := Aside0.mk (blk_below (g := gb426) (o := .cells #[.bool a1_0, .bool a1_1] 81 (0, 0)) (by (with_reducible repeat (first | refine blk_drewN ?_ _ | refine blk_drew ?_ | refine blk_alloc ?_ _)); exact BK426.out) hb); have n2_ := Aside0.mk (below_step (by repeat (first | (with_reducible first | exact HB.out | apply below_alloc | apply pw_below_drewN | apply below_drew1 | refine below_set ?_ GE425.out | refine below_set ?_ GE426.out) | exact HB.out)) hb); clear BK425; clear BK426; clear HB; have BK425 := n0_; have BK426 := n1_; have HB := n2_; clear n0_ n1_ n2_; (try clear hb); (try clear hb2); (try clear hk); (try clear hi)))
    (try simp only [Act.put, List.setIfInBounds_toArray, List.set_cons_zero, List.set_cons_succ])
    go_cut [32] (fun v32 wc => ∃ (kq : Nat) (x32_5 : Bool), v32 = .bool x32_5 ∧ Aside0 (squelchlaw04_CallBytes.j0 kq a2 x32_5 a0_0 a0_1 a1_0 a1_1 = some r) ∧ Aside0 (kq ≤ k) ∧ Aside0 (wc.heap[gb425]? = some (.cells #[.string a0_0, .int .i64 a0_1] 23 (0, 0))) ∧ Aside0 (wc.heap[gb426]? = some (.cells #[.bool a1_0, .bool a1_1] 81 (0, 0))) ∧ Aside0 (Below w.heap.size w wc))
    case first =>
      have H := HC6.out
      clear HC6
      by_cases c10 : (a0_0.size : Int) > 100
      · rw [if_pos c10] at H
        have c10b0 : decide (100 < (a0_0.size : Int)) = true := decide_eq_true c10
        have c10b1 : decide (100 < a0_0.size) = true := decide_eq_true (by omega)
        clear c10
        (first | rw [c10b0] | (simp only [i64_w, i32_w]; rw [c10b0]) | skip)
        have H' := Aside0.mk H
        clear H
        have hnb11 := NB425_426.out
        have hnc11 := NB426_425.out
        have hcz12_0 : w9.cell? ⟨gb425, 0, none⟩ = some (.string a0_0) := (blk_cell BK425.out 0).trans rfl
        have hcz12_1 : w9.cell? ⟨gb425, 1, none⟩ = some (.int .i64 a0_1) := (blk_cell BK425.out 1).trans rfl
        have hfz12_0 := blk_frozen BK425.out 0
        have hfz12_1 := blk_frozen BK425.out 1
        go_wp2
        go_meet
        case rel => exact ⟨_, (true), (by first | rfl | (simp; done) | (simp [*]; done) | (simp; exact (fun l : List UInt8 => (by cases l <;> rfl : l.isEmpty = !(l != []))) _)), H', ⟨by first | omega | exact Nat.le_refl _⟩, ⟨by (with_reducible repeat (first | refine blk_drewN ?_ _ | refine blk_drew ?_ | refine blk_alloc ?_ _)); exact BK425.out⟩, ⟨by (with_reducible repeat (first | refine blk_drewN ?_ _ | refine blk_drew ?_ | refine blk_alloc ?_ _)); exact BK426.out⟩, ⟨by repeat (first | (with_reducible first | exact HB.out | apply below_alloc | apply pw_below_drewN | apply below_drew1 | refine below_set ?_ GE425.out | refine below_set ?_ GE426.out) | exact HB.out)⟩⟩
      · rw [if_neg c10] at H
        have c10b0 : decide (100 < (a0_0.size : Int)) = false := decide_eq_false c10
        have c10b1 : decide (100 < a0_0.size) = false := decide_eq_false (by omega)
        clear c10
        (first | rw [c10b0] | (simp only [i64_w, i32_w]; rw [c10b0]) | skip)
        have H' := Aside0.mk H
        clear H
        have hnb13 := NB425_426.out
        have hnc13 := NB426_425.out
        have hcz14_0 : w9.cell? ⟨gb425, 0, none⟩ = some (.string a0_0) := (blk_cell BK425.out 0).trans rfl
        have hcz14_1 : w9.cell? ⟨gb425, 1, none⟩ = some (.int .i64 a0_1) := (blk_cell BK425.out 1).trans rfl
        have hfz14_0 := blk_frozen BK425.out 0
        have hfz14_1 := blk_frozen BK425.out 1
        go_wp2
        go_meet
        case rel => exact ⟨_, (decide ((a2.size : Int) > 100)), (by first | rfl | (simp; done) | (simp [*]; done) | (simp; exact (fun l : List UInt8 => (by cases l <;> rfl : l.isEmpty = !(l != []))) _)), H', ⟨by first | omega | exact Nat.le_refl _⟩, ⟨by (with_reducible repeat (first | refine blk_drewN ?_ _ | refine blk_drew ?_ | refine blk_alloc ?_ _)); exact BK425.out⟩, ⟨by (with_reducible repeat (first | refine blk_drewN ?_ _ | refine blk_drew ?_ | refine blk_alloc ?_ _)); exact BK426.out⟩, ⟨by repeat (first | (with_reducible first | exact HB.out | apply below_alloc | apply pw_below_drewN | apply below_drew1 | refine below_set ?_ GE425.out | refine below_set ?_ GE426.out) | exact HB.out)⟩⟩
    case rest =>
      clear HC6
      try clear c1
      try clear p2
      try clear c3
      try clear c5
      try clear c10
      try clear c10b0
      try clear c10b1
      try clear c11
      try clear c12
      try clear c13
      try clear hcz12_0
      try clear hcz12_1
      try clear hcz14_0
      try clear hcz14_1
      try clear hfz12_0
      try clear hfz12_1
      try clear hfz14_0
      try clear hfz14_1
      obtain ⟨kq, x32_5, rfl, HA, HJ5, BK425, BK426, HB⟩ := hcut
      cases kq with
      | zero => exact absurd HA.out (by simp [squelchlaw04_CallBytes.j0])
      | succ kj5 =>
        have H := HA.out
        clear HA
        simp only [squelchlaw04_CallBytes.j0] at H
        by_cases c15 : x32_5 = true
        · subst c15
          have H1 : (some true) = some r := by rw [if_pos rfl] at H; exact H
          clear H
          have H := H1
          clear H1
          obtain rfl := Option.some.inj H
          go_wp2
          go_ret
          exact ⟨by first | rfl | (simp [errW_none, errW_some] <;> rfl) | (simp [*, errW_none, errW_some] <;> rfl), by repeat (first | (with_reducible first | exact HB.out | apply below_alloc | apply pw_below_drewN | apply below_drew1 | refine below_set ?_ GE425.out | refine below_set ?_ GE426.out) | exact HB.out)⟩
        · replace c15 := Bool.eq_false_iff.mpr c15
          subst c15
          have H1 : ((call_Put.f a0_0 a0_1 a1_0 a1_1).bind fun bt428 => ((squelchref04_Right.f kj5 a0_0 a0_1).bind fun t430 => (if t430 = true then (if bt428.2 = 0 then ((squelchref04_Put.f kj5 a0_0 a0_1 a1_0 a1_1).bind fun t431 => (squelchlaw04_CallBytes.j1 kj5 a2 bt428.1 (bt428.1.toList != t431.toList) a0_0 a0_1 a1_0 a1_1)) else (squelchlaw04_CallBytes.j1 kj5 a2 bt428.1 true a0_0 a0_1 a1_0 a1_1)) else (if bt428.1.toList = ([] : List UInt8) then (if bt428.2 = 12 then (squelchlaw04_CallBytes.j2 kj5 a2) else (some false)) else (some false))))) = some r := by rw [if_neg (show ¬ (false = true) by decide)] at H; exact H
          clear H
          have H := H1
          clear H1
          replace H := Option.bind_eq_some_iff.mp H
          obtain ⟨⟨t428, t429⟩, A160, H⟩ := H
          replace H : ((squelchref04_Right.f kj5 a0_0 a0_1).bind fun t430 => (if t430 = true then (if t429 = 0 then ((squelchref04_Put.f kj5 a0_0 a0_1 a1_0 a1_1).bind fun t431 => (squelchlaw04_CallBytes.j1 kj5 a2 t428 (t428.toList != t431.toList) a0_0 a0_1 a1_0 a1_1)) else (squelchlaw04_CallBytes.j1 kj5 a2 t428 true a0_0 a0_1 a1_0 a1_1)) else (if t428.toList = ([] : List UInt8) then (if t429 = 12 then (squelchlaw04_CallBytes.j2 kj5 a2) else (some false)) else (some false)))) = some r := H
          have A16 := Aside0.mk A160
          clear A160
          replace H := Option.bind_eq_some_iff.mp H
          obtain ⟨t430, A170, H⟩ := H
          replace H : (if t430 = true then (if t429 = 0 then ((squelchref04_Put.f kj5 a0_0 a0_1 a1_0 a1_1).bind fun t431 => (squelchlaw04_CallBytes.j1 kj5 a2 t428 (t428.toList != t431.toList) a0_0 a0_1 a1_0 a1_1)) else (squelchlaw04_CallBytes.j1 kj5 a2 t428 true a0_0 a0_1 a1_0 a1_1)) else (if t428.toList = ([] : List UInt8) then (if t429 = 12 then (squelchlaw04_CallBytes.j2 kj5 a2) else (some false)) else (some false))) = some r := H
          have A17 := Aside0.mk A170
          clear A170
          have HC18 := Aside0.mk H
          clear H
          have hnb19 := NB425_426.out
          have hnc19 := NB426_425.out
          have hcz20_0 : wc.cell? ⟨gb425, 0, none⟩ = some (.string a0_0) := (blk_cell BK425.out 0).trans rfl
          have hcz20_1 : wc.cell? ⟨gb425, 1, none⟩ = some (.int .i64 a0_1) := (blk_cell BK425.out 1).trans rfl
          have hfz20_0 := blk_frozen BK425.out 0
          have hfz20_1 := blk_frozen BK425.out 1
          have hcz21_0 : wc.cell? ⟨gb426, 0, none⟩ = some (.bool a1_0) := (blk_cell BK426.out 0).trans rfl
          have hcz21_1 : wc.cell? ⟨gb426, 1, none⟩ = some (.bool a1_1) := (blk_cell BK426.out 1).trans rfl
          have hfz21_0 := blk_frozen BK426.out 0
          have hfz21_1 := blk_frozen BK426.out 1
          go_upto_if 44 with (first | ((with_reducible refine gate_callee (f := 52) rfl ?_); refine goesL_ (some 39) rfl rfl Tryd.func52 (by kernel_rfl) rfl #[.agg #[.string a0_0, .int .i64 a0_1], .bool a1_0, .bool a1_1] rfl (by (try simp only [List.map_toArray, List.map_cons, List.map_nil]); first | done | rfl | (simp only [List.length_drop, List.length_take]; rfl)) ?_; (with_reducible refine (call_Put.calls a0_0 a0_1 a1_0 a1_1 t428 t429 _ A16.out).mono ?_); rintro e w22 ⟨rfl, hb⟩; refine ⟨_, rfl, ?_⟩; have n0_ := Aside0.mk (blk_below (g := gb425) (o := .cells #[.string a0_0, .int .i64 a0_1] 23 (0, 0)) (by (with_reducible repeat (first | refine blk_drewN ?_ _ | refine blk_drew ?_ | refine blk_alloc ?_ _)); exact BK425.out) hb); have n1_ := Aside0.mk (blk_below (g := gb426) (o := .cells #[.bool a1_0, .bool a1_1] 81 (0, 0)) (by (with_reducible repeat (first | refine blk_drewN ?_ _ | refine blk_drew ?_ | refine blk_alloc ?_ _)); exact BK426.out) hb); have n2_ := Aside0.mk (below_step (by repeat (first | (with_reducible first | exact HB.out | apply below_alloc | apply pw_below_drewN | apply below_drew1 | refine below_set ?_ GE425.out | refine below_set ?_ GE426.out) | exact HB.out)) hb); clear BK425; clear BK426; clear HB; have BK425 := n0_; have BK426 := n1_; have HB := n2_; clear n0_ n1_ n2_; (try clear hb); (try clear hb2); (try clear hk); (try clear hi); have hcz23_0 : w22.cell? ⟨gb425, 0, none⟩ = some (.string a0_0) := (blk_cell BK425.out 0).trans rfl; have hcz23_1 : w22.cell? ⟨gb425, 1, none⟩ = some (.int .i64 a0_1) := (blk_cell BK425.out 1).trans rfl; have hfz23_0 := blk_frozen BK425.out 0; have hfz23_1 := blk_frozen BK425.out 1) | ((with_reducible refine gate_callee (f := 39) rfl ?_); refine goesL_ (some 43) rfl rfl Tryd.func39 (by kernel_rfl) rfl #[.agg #[.string a0_0, .int .i64 a0_1]] rfl (by (try simp only [List.map_toArray, List.map_cons, List.map_nil]); first | done | rfl | (simp only [List.length_drop, List.length_take]; rfl)) ?_; (with_reducible refine (squelchref04_Right.calls kj5 a0_0 a0_1 t430 _ A17.out).mono ?_); rintro e w24 ⟨rfl, hb⟩; refine ⟨_, rfl, ?_⟩; have n0_ := Aside0.mk (blk_below (g := gb425) (o := .cells #[.string a0_0, .int .i64 a0_1] 23 (0, 0)) (by (with_reducible repeat (first | refine blk_drewN ?_ _ | refine blk_drew ?_ | refine blk_alloc ?_ _)); exact BK425.out) hb); have n1_ := Aside0.mk (blk_below (g := gb426) (o := .cells #[.bool a1_0, .bool a1_1] 81 (0, 0)) (by (with_reducible repeat (first | refine blk_drewN ?_ _ | refine blk_drew ?_ | refine blk_alloc ?_ _)); exact BK426.out) hb); have n2_ := Aside0.mk (below_step (by repeat (first | (with_reducible first | exact HB.out | apply below_alloc | apply pw_below_drewN | apply below_drew1 | refine below_set ?_ GE425.out | refine below_set ?_ GE426.out) | exact HB.out)) hb); clear BK425; clear BK426; clear HB; have BK425 := n0_; have BK426 := n1_; have HB := n2_; clear n0_ n1_ n2_; (try clear hb); (try clear hb2); (try clear hk); (try clear hi)))
          (try simp only [Act.put, List.setIfInBounds_toArray, List.set_cons_zero, List.set_cons_succ])
          go_cut [] (fun wc => ∃ (kq : Nat), Aside0 (squelchlaw04_CallBytes.j2 kq a2 = some r) ∧ Aside0 (kq ≤ kj5) ∧ Aside0 (wc.heap[gb425]? = some (.cells #[.string a0_0, .int .i64 a0_1] 23 (0, 0))) ∧ Aside0 (wc.heap[gb426]? = some (.cells #[.bool a1_0, .bool a1_1] 81 (0, 0))) ∧ Aside0 (Below w.heap.size w wc))
          case first =>
            have H := HC18.out
            clear HC18
            by_cases c25 : t430 = true
            · subst c25
              have H1 : (if t429 = 0 then ((squelchref04_Put.f kj5 a0_0 a0_1 a1_0 a1_1).bind fun t431 => (squelchlaw04_CallBytes.j1 kj5 a2 t428 (t428.toList != t431.toList) a0_0 a0_1 a1_0 a1_1)) else (squelchlaw04_CallBytes.j1 kj5 a2 t428 true a0_0 a0_1 a1_0 a1_1)) = some r := by rw [if_pos rfl] at H; exact H
              clear H
              have H := H1
              clear H1
              have HC26 := Aside0.mk H
              clear H
              go_upto_region 9 with (fail)
              go_cut [62] (fun v62 wc => ∃ (kq : Nat) (x62_25 : Bool), v62 = .bool x62_25 ∧ Aside0 (squelchlaw04_CallBytes.j1 kq a2 t428 x62_25 a0_0 a0_1 a1_0 a1_1 = some r) ∧ Aside0 (kq ≤ kj5) ∧ Aside0 (wc.heap[gb425]? = some (.cells #[.string a0_0, .int .i64 a0_1] 23 (0, 0))) ∧ Aside0 (wc.heap[gb426]? = some (.cells #[.bool a1_0, .bool a1_1] 81 (0, 0))) ∧ Aside0 (Below w.heap.size w wc))
              case first =>
                have H := HC26.out
                clear HC26
                by_cases c27 : t429 = 0
                · rw [if_pos c27] at H
                  have c27b0 : (t429 == 0) = true := beq_iff_eq.mpr c27
                  have c27b1 : (t429 != 0) = false := bne_eq_false_iff_eq.mpr c27
                  clear c27
                  (first | rw [c27b0] | (simp only [i64_w, i32_w]; rw [c27b0]) | skip)
                  replace H := Option.bind_eq_some_iff.mp H
                  obtain ⟨t431, A280, H⟩ := H
                  replace H : (squelchlaw04_CallBytes.j1 kj5 a2 t428 (t428.toList != t431.toList) a0_0 a0_1 a1_0 a1_1) = some r := H
                  have A28 := Aside0.mk A280
                  clear A280
                  have H' := Aside0.mk H
                  clear H
                  have hnb29 := NB425_426.out
                  have hnc29 := NB426_425.out
                  have hcz30_0 : w24.cell? ⟨gb425, 0, none⟩ = some (.string a0_0) := (blk_cell BK425.out 0).trans rfl
                  have hcz30_1 : w24.cell? ⟨gb425, 1, none⟩ = some (.int .i64 a0_1) := (blk_cell BK425.out 1).trans rfl
                  have hfz30_0 := blk_frozen BK425.out 0
                  have hfz30_1 := blk_frozen BK425.out 1
                  have hcz31_0 : w24.cell? ⟨gb426, 0, none⟩ = some (.bool a1_0) := (blk_cell BK426.out 0).trans rfl
                  have hcz31_1 : w24.cell? ⟨gb426, 1, none⟩ = some (.bool a1_1) := (blk_cell BK426.out 1).trans rfl
                  have hfz31_0 := blk_frozen BK426.out 0
                  have hfz31_1 := blk_frozen BK426.out 1
                  go_wp2_with (first | (go_at_call 53; (with_reducible refine (squelchref04_Put.calls kj5 a0_0 a0_1 a1_0 a1_1 t431 _ A28.out).mono ?_); rintro e w32 ⟨rfl, hb⟩; have n0_ := Aside0.mk (blk_below (g := gb425) (o := .cells #[.string a0_0, .int .i64 a0_1] 23 (0, 0)) (by (with_reducible repeat (first | refine blk_drewN ?_ _ | refine blk_drew ?_ | refine blk_alloc ?_ _)); exact BK425.out) hb); have n1_ := Aside0.mk (blk_below (g := gb426) (o := .cells #[.bool a1_0, .bool a1_1] 81 (0, 0)) (by (with_reducible repeat (first | refine blk_drewN ?_ _ | refine blk_drew ?_ | refine blk_alloc ?_ _)); exact BK426.out) hb); have n2_ := Aside0.mk (below_step (by repeat (first | (with_reducible first | exact HB.out | apply below_alloc | apply pw_below_drewN | apply below_drew1 | refine below_set ?_ GE425.out | refine below_set ?_ GE426.out) | exact HB.out)) hb); clear BK425; clear BK426; clear HB; have BK425 := n0_; have BK426 := n1_; have HB := n2_; clear n0_ n1_ n2_; (try clear hb); (try clear hb2); (try clear hk); (try clear hi)))
                  go_meet
                  case rel => exact ⟨_, ((t428.toList != t431.toList)), (by first | rfl | (simp; done) | (simp [*]; done) | (simp; exact (fun l : List UInt8 => (by cases l <;> rfl : l.isEmpty = !(l != []))) _)), H', ⟨by have := HJ5.out; first | omega | exact Nat.le_refl _⟩, ⟨by (with_reducible repeat (first | refine blk_drewN ?_ _ | refine blk_drew ?_ | refine blk_alloc ?_ _)); exact BK425.out⟩, ⟨by (with_reducible repeat (first | refine blk_drewN ?_ _ | refine blk_drew ?_ | refine blk_alloc ?_ _)); exact BK426.out⟩, ⟨by repeat (first | (with_reducible first | exact HB.out | apply below_alloc | apply pw_below_drewN | apply below_drew1 | refine below_set ?_ GE425.out | refine below_set ?_ GE426.out) | exact HB.out)⟩⟩
                · rw [if_neg c27] at H
                  have c27b0 : (t429 == 0) = false := beq_eq_false_iff_ne.mpr c27
                  have c27b1 : (t429 != 0) = true := bne_iff_ne.mpr c27
                  (first | rw [c27b0] | (simp only [i64_w, i32_w]; rw [c27b0]) | skip)
                  have H' := Aside0.mk H
                  clear H
                  go_wp2
                  go_meet
                  case rel => exact ⟨_, (true), (by first | rfl | (simp; done) | (simp [*]; done) | (simp; exact (fun l : List UInt8 => (by cases l <;> rfl : l.isEmpty = !(l != []))) _)), H', ⟨by have := HJ5.out; first | omega | exact Nat.le_refl _⟩, ⟨by (with_reducible repeat (first | refine blk_drewN ?_ _ | refine blk_drew ?_ | refine blk_alloc ?_ _)); exact BK425.out⟩, ⟨by (with_reducible repeat (first | refine blk_drewN ?_ _ | refine blk_drew ?_ | refine blk_alloc ?_ _)); exact BK426.out⟩, ⟨by repeat (first | (with_reducible first | exact HB.out | apply below_alloc | apply pw_below_drewN | apply below_drew1 | refine below_set ?_ GE425.out | refine below_set ?_ GE426.out) | exact HB.out)⟩⟩
              case rest =>
                clear HC26
                try clear c1
                try clear c2
                try clear p2
                try clear c3
                try clear c5
                try clear c10
                try clear c10b0
                try clear c10b1
                try clear c11
                try clear c12
                try clear c13
                try clear c15
                try clear c19
                try clear c25
                try clear c27
                try clear c27b0
                try clear c27b1
                try clear c29
                try clear hcz12_0
                try clear hcz12_1
                try clear hcz14_0
                try clear hcz14_1
                try clear hcz20_0
                try clear hcz20_1
                try clear hcz21_0
                try clear hcz21_1
                try clear hcz23_0
                try clear hcz23_1
                try clear hcz30_0
                try clear hcz30_1
                try clear hcz31_0
                try clear hcz31_1
                try clear hfz12_0
                try clear hfz12_1
                try clear hfz14_0
                try clear hfz14_1
                try clear hfz20_0
                try clear hfz20_1
                try clear hfz21_0
                try clear hfz21_1
                try clear hfz23_0
                try clear hfz23_1
                try clear hfz30_0
                try clear hfz30_1
                try clear hfz31_0
                try clear hfz31_1
                try clear p2
                obtain ⟨kq, x62_25, rfl, HA, HJ25, BK425, BK426, HB⟩ := hcut
                cases kq with
                | zero => exact absurd HA.out (by simp [squelchlaw04_CallBytes.j1])
                | succ kj25 =>
                  have H := HA.out
                  clear HA
                  simp only [squelchlaw04_CallBytes.j1] at H
                  by_cases c33 : x62_25 = true
                  · subst c33
                    have H1 : (some false) = some r := by rw [if_pos rfl] at H; exact H
                    clear H
                    have H := H1
                    clear H1
                    exact absurd ((Option.some.inj H).trans HT_.out) (by decide)
                  · replace c33 := Bool.eq_false_iff.mpr c33
                    subst c33
                    have H1 : ((call_Get.f t428).bind fun bt432 => (if (!(bt432.1.toList == a0_0.toList) || (!(bt432.2.1 == a0_1))) = true then (some false) else (if (bt432.2.2.1 != a1_0) = true then (some false) else (if (bt432.2.2.2.1 != a1_1) = true then (some false) else (if bt432.2.2.2.2 = 0 then (squelchlaw04_CallBytes.j2 kj25 a2) else (some false)))))) = some r := by rw [if_neg (show ¬ (false = true) by decide)] at H; exact H
                    clear H
                    have H := H1
                    clear H1
                    replace H := Option.bind_eq_some_iff.mp H
                    obtain ⟨⟨t432, t433, t434, t435, t436⟩, A340, H⟩ := H
                    replace H : (if (!(t432.toList == a0_0.toList) || (!(t433 == a0_1))) = true then (some false) else (if (t434 != a1_0) = true then (some false) else (if (t435 != a1_1) = true then (some false) else (if t436 = 0 then (squelchlaw04_CallBytes.j2 kj25 a2) else (some false))))) = some r := H
                    have A34 := Aside0.mk A340
                    clear A340
                    by_cases c35 : (!(t432.toList == a0_0.toList) || (!(t433 == a0_1))) = true
                    · rw [if_pos c35] at H
                      have c35b0 : (!(t432.toList == a0_0.toList) || (!(t433 == a0_1))) = true := c35
                      clear c35
                      exact absurd ((Option.some.inj H).trans HT_.out) (by decide)
                    · rw [if_neg c35] at H
                      have c35b0 : (!(t432.toList == a0_0.toList) || (!(t433 == a0_1))) = false := by simpa using c35
                      clear c35
                      by_cases c36 : (t434 != a1_0) = true
                      · rw [if_pos c36] at H
                        have c36b0 : (t434 != a1_0) = true := c36
                        (try (have c36b1 : decide (t434 = a1_0) = false := by simpa using c36))
                        (try (have c36b2 : (t434 == a1_0) = false := by simpa using c36))
                        (try (have c36b3 : ¬ (t434 = a1_0) := by simpa using c36))
                        clear c36
                        exact absurd ((Option.some.inj H).trans HT_.out) (by decide)
                      · rw [if_neg c36] at H
                        have c36b0 : (t434 != a1_0) = false := by simpa using c36
                        (try (have c36b1 : decide (t434 = a1_0) = true := by simpa using c36))
                        (try (have c36b2 : (t434 == a1_0) = true := by simpa using c36))
                        clear c36
                        by_cases c37 : (t435 != a1_1) = true
                        · rw [if_pos c37] at H
                          have c37b0 : (t435 != a1_1) = true := c37
                          (try (have c37b1 : decide (t435 = a1_1) = false := by simpa using c37))
                          (try (have c37b2 : (t435 == a1_1) = false := by simpa using c37))
                          (try (have c37b3 : ¬ (t435 = a1_1) := by simpa using c37))
                          clear c37
                          exact absurd ((Option.some.inj H).trans HT_.out) (by decide)
                        · rw [if_neg c37] at H
                          have c37b0 : (t435 != a1_1) = false := by simpa using c37
                          (try (have c37b1 : decide (t435 = a1_1) = true := by simpa using c37))
                          (try (have c37b2 : (t435 == a1_1) = true := by simpa using c37))
                          clear c37
                          by_cases c38 : t436 = 0
                          · rw [if_pos c38] at H
                            have c38b0 : (t436 == 0) = true := beq_iff_eq.mpr c38
                            have c38b1 : (t436 != 0) = false := bne_eq_false_iff_eq.mpr c38
                            clear c38
                            have H' := Aside0.mk H
                            clear H
                            go_wp2_with (first | ((with_reducible refine gate_callee (f := 54) rfl ?_); refine goesL_ (some 65) rfl rfl Tryd.func54 (by kernel_rfl) rfl #[.string t428] rfl (by (try simp only [List.map_toArray, List.map_cons, List.map_nil]); first | done | rfl | (simp only [List.length_drop, List.length_take]; rfl)) ?_; (with_reducible refine (call_Get.calls t428 t432 t433 t434 t435 t436 _ A34.out).mono ?_); rintro e w39 ⟨rfl, hb⟩; refine ⟨_, rfl, ?_⟩; have n0_ := Aside0.mk (blk_below (g := gb425) (o := .cells #[.string a0_0, .int .i64 a0_1] 23 (0, 0)) (by (with_reducible repeat (first | refine blk_drewN ?_ _ | refine blk_drew ?_ | refine blk_alloc ?_ _)); exact BK425.out) hb); have n1_ := Aside0.mk (blk_below (g := gb426) (o := .cells #[.bool a1_0, .bool a1_1] 81 (0, 0)) (by (with_reducible repeat (first | refine blk_drewN ?_ _ | refine blk_drew ?_ | refine blk_alloc ?_ _)); exact BK426.out) hb); have n2_ := Aside0.mk (below_step (by repeat (first | (with_reducible first | exact HB.out | apply below_alloc | apply pw_below_drewN | apply below_drew1 | refine below_set ?_ GE425.out | refine below_set ?_ GE426.out) | exact HB.out)) hb); clear BK425; clear BK426; clear HB; have BK425 := n0_; have BK426 := n1_; have HB := n2_; clear n0_ n1_ n2_; (try clear hb); (try clear hb2); (try clear hk); (try clear hi)) | ((with_reducible refine gate_dst (N := 9) rfl ?_); (try (refine gate_guard (by rfl) ?_; dsimp only)); refine box_event ?hg (N := 9) ?hd (cs := #[.string (⟨#[]⟩ : ByteArray), .int .i64 0]) (t := 23) ?hr ?_; (case hd => rfl); (case hg => rfl); (case hr => first | (go_simp; done) | (go_simp; rfl)); intro gb437 hg w40 hbox hb; have n0_ := Aside0.mk (blk_below (g := gb425) (o := .cells #[.string a0_0, .int .i64 a0_1] 23 (0, 0)) (by (with_reducible repeat (first | refine blk_drewN ?_ _ | refine blk_drew ?_ | refine blk_alloc ?_ _)); exact BK425.out) hb); have n1_ := Aside0.mk (blk_below (g := gb426) (o := .cells #[.bool a1_0, .bool a1_1] 81 (0, 0)) (by (with_reducible repeat (first | refine blk_drewN ?_ _ | refine blk_drew ?_ | refine blk_alloc ?_ _)); exact BK426.out) hb); have n2_ := Aside0.mk (below_step (by repeat (first | (with_reducible first | exact HB.out | apply below_alloc | apply pw_below_drewN | apply below_drew1 | refine below_set ?_ GE425.out | refine below_set ?_ GE426.out) | exact HB.out)) hb); have n3_ := Aside0.mk (hbox); have n4_ := Aside0.mk ((by rw [hg]; exact (below_size (by repeat (first | (with_reducible first | exact HB.out | apply below_alloc | apply pw_below_drewN | apply below_drew1 | refine below_set ?_ GE425.out | refine below_set ?_ GE426.out) | exact HB.out))) : w.heap.size ≤ gb437)); have n5_ := Aside0.mk ((by rw [hg]; exact (below_size (by repeat (first | (with_reducible first | exact HB.out | apply below_alloc | apply pw_below_drewN | apply below_drew1 | refine below_set ?_ GE425.out | refine below_set ?_ GE426.out) | exact HB.out))) : w.heap.size ≤ gb437)); have n6_ := Aside0.mk ((by rw [hg]; exact Nat.ne_of_lt (blk_lt (g := gb425) (o := .cells #[.string a0_0, .int .i64 a0_1] 23 (0, 0)) (by (with_reducible repeat (first | refine blk_drewN ?_ _ | refine blk_drew ?_ | refine blk_alloc ?_ _)); exact BK425.out)) : gb425 ≠ gb437)); have n7_ := Aside0.mk ((by rw [hg]; exact Nat.ne_of_gt (blk_lt (g := gb425) (o := .cells #[.string a0_0, .int .i64 a0_1] 23 (0, 0)) (by (with_reducible repeat (first | refine blk_drewN ?_ _ | refine blk_drew ?_ | refine blk_alloc ?_ _)); exact BK425.out)) : gb437 ≠ gb425)); have n8_ := Aside0.mk ((by rw [hg]; exact Nat.ne_of_lt (blk_lt (g := gb426) (o := .cells #[.bool a1_0, .bool a1_1] 81 (0, 0)) (by (with_reducible repeat (first | refine blk_drewN ?_ _ | refine blk_drew ?_ | refine blk_alloc ?_ _)); exact BK426.out)) : gb426 ≠ gb437)); have n9_ := Aside0.mk ((by rw [hg]; exact Nat.ne_of_gt (blk_lt (g := gb426) (o := .cells #[.bool a1_0, .bool a1_1] 81 (0, 0)) (by (with_reducible repeat (first | refine blk_drewN ?_ _ | refine blk_drew ?_ | refine blk_alloc ?_ _)); exact BK426.out)) : gb437 ≠ gb426)); clear BK425; clear BK426; clear HB; have BK425 := n0_; have BK426 := n1_; have HB := n2_; have BK437 := n3_; have GW437 := n4_; have GE437 := n5_; have NB425_437 := n6_; have NB437_425 := n7_; have NB426_437 := n8_; have NB437_426 := n9_; clear n0_ n1_ n2_ n3_ n4_ n5_ n6_ n7_ n8_ n9_; clear hb hbox hg; have hnb41 := NB437_425.out; have hnc41 := NB425_437.out; have hnb42 := NB437_426.out; have hnc42 := NB426_437.out; have hcz43_0 : w40.cell? ⟨gb437, 0, none⟩ = some (.string (⟨#[]⟩ : ByteArray)) := (blk_cell BK437.out 0).trans rfl; have hcz43_1 : w40.cell? ⟨gb437, 1, none⟩ = some (.int .i64 0) := (blk_cell BK437.out 1).trans rfl; have hfz43_0 := blk_frozen BK437.out 0; have hfz43_1 := blk_frozen BK437.out 1; have hnb44 := NB425_426.out; have hnc44 := NB426_425.out; have hcz45_0 : w40.cell? ⟨gb425, 0, none⟩ = some (.string a0_0) := (blk_cell BK425.out 0).trans rfl; have hcz45_1 : w40.cell? ⟨gb425, 1, none⟩ = some (.int .i64 a0_1) := (blk_cell BK425.out 1).trans rfl; have hfz45_0 := blk_frozen BK425.out 0; have hfz45_1 := blk_frozen BK425.out 1; have hcz46_0 : w40.cell? ⟨gb426, 0, none⟩ = some (.bool a1_0) := (blk_cell BK426.out 0).trans rfl; have hcz46_1 : w40.cell? ⟨gb426, 1, none⟩ = some (.bool a1_1) := (blk_cell BK426.out 1).trans rfl; have hfz46_0 := blk_frozen BK426.out 0; have hfz46_1 := blk_frozen BK426.out 1))
                            go_meet
                            case rel => exact ⟨_, H', ⟨by have := HJ5.out; have := HJ25.out; first | omega | exact Nat.le_refl _⟩, ⟨by (with_reducible repeat (first | refine blk_drewN ?_ _ | refine blk_drew ?_ | refine blk_alloc ?_ _)); refine blk_far ?_ NB425_437.out _; (with_reducible repeat (first | refine blk_drewN ?_ _ | refine blk_drew ?_ | refine blk_alloc ?_ _)); refine blk_far ?_ NB425_437.out _; (with_reducible repeat (first | refine blk_drewN ?_ _ | refine blk_drew ?_ | refine blk_alloc ?_ _)); exact BK425.out⟩, ⟨by (with_reducible repeat (first | refine blk_drewN ?_ _ | refine blk_drew ?_ | refine blk_alloc ?_ _)); refine blk_far ?_ NB426_437.out _; (with_reducible repeat (first | refine blk_drewN ?_ _ | refine blk_drew ?_ | refine blk_alloc ?_ _)); refine blk_far ?_ NB426_437.out _; (with_reducible repeat (first | refine blk_drewN ?_ _ | refine blk_drew ?_ | refine blk_alloc ?_ _)); exact BK426.out⟩, ⟨by repeat (first | (with_reducible first | exact HB.out | apply below_alloc | apply pw_below_drewN | apply below_drew1 | refine below_set ?_ GE425.out | refine below_set ?_ GE426.out | refine below_set ?_ GE437.out) | exact HB.out)⟩⟩
                          · rw [if_neg c38] at H
                            have c38b0 : (t436 == 0) = false := beq_eq_false_iff_ne.mpr c38
                            have c38b1 : (t436 != 0) = true := bne_iff_ne.mpr c38
                            exact absurd ((Option.some.inj H).trans HT_.out) (by decide)
            · replace c25 := Bool.eq_false_iff.mpr c25
              subst c25
              have H1 : (if t428.toList = ([] : List UInt8) then (if t429 = 12 then (squelchlaw04_CallBytes.j2 kj5 a2) else (some false)) else (some false)) = some r := by rw [if_neg (show ¬ (false = true) by decide)] at H; exact H
              clear H
              have H := H1
              clear H1
              by_cases c47 : t428.toList = ([] : List UInt8)
              · rw [if_pos c47] at H
                have c47b0 : (t428.toList == ([] : List UInt8)) = true := beq_iff_eq.mpr c47
                have c47b1 : (t428.toList != ([] : List UInt8)) = false := bne_eq_false_iff_eq.mpr c47
                clear c47
                by_cases c48 : t429 = 12
                · rw [if_pos c48] at H
                  have c48b0 : (t429 == 12) = true := beq_iff_eq.mpr c48
                  have c48b1 : (t429 != 12) = false := bne_eq_false_iff_eq.mpr c48
                  clear c48
                  have H' := Aside0.mk H
                  clear H
                  go_wp2
                  go_meet
                  case rel => exact ⟨_, H', ⟨by have := HJ5.out; first | omega | exact Nat.le_refl _⟩, ⟨by (with_reducible repeat (first | refine blk_drewN ?_ _ | refine blk_drew ?_ | refine blk_alloc ?_ _)); exact BK425.out⟩, ⟨by (with_reducible repeat (first | refine blk_drewN ?_ _ | refine blk_drew ?_ | refine blk_alloc ?_ _)); exact BK426.out⟩, ⟨by repeat (first | (with_reducible first | exact HB.out | apply below_alloc | apply pw_below_drewN | apply below_drew1 | refine below_set ?_ GE425.out | refine below_set ?_ GE426.out) | exact HB.out)⟩⟩
                · rw [if_neg c48] at H
                  have c48b0 : (t429 == 12) = false := beq_eq_false_iff_ne.mpr c48
                  have c48b1 : (t429 != 12) = true := bne_iff_ne.mpr c48
                  exact absurd ((Option.some.inj H).trans HT_.out) (by decide)
              · rw [if_neg c47] at H
                have c47b0 : (t428.toList == ([] : List UInt8)) = false := beq_eq_false_iff_ne.mpr c47
                have c47b1 : (t428.toList != ([] : List UInt8)) = true := bne_iff_ne.mpr c47
                exact absurd ((Option.some.inj H).trans HT_.out) (by decide)
          case rest =>
            clear HC18
            try clear c1
            try clear c2
            try clear p2
            try clear c3
            try clear c4
            try clear c5
            try clear c10
            try clear c10b0
            try clear c10b1
            try clear c11
            try clear c12
            try clear c13
            try clear c15
            try clear c19
            try clear c25
            try clear c27
            try clear c27b0
            try clear c27b1
            try clear c29
            try clear c33
            try clear c35
            try clear c35b0
            try clear c36
            try clear c36b0
            try clear c36b1
            try clear c36b2
            try clear c37
            try clear c37b0
            try clear c37b1
            try clear c37b2
            try clear c38
            try clear c38b0
            try clear c38b1
            try clear c39
            try clear c41
            try clear c42
            try clear c44
            try clear c47
            try clear c47b0
            try clear c47b1
            try clear c48
            try clear c48b0
            try clear c48b1
            try clear hcz12_0
            try clear hcz12_1
            try clear hcz14_0
            try clear hcz14_1
            try clear hcz20_0
            try clear hcz20_1
            try clear hcz21_0
            try clear hcz21_1
            try clear hcz23_0
            try clear hcz23_1
            try clear hcz30_0
            try clear hcz30_1
            try clear hcz31_0
            try clear hcz31_1
            try clear hcz43_0
            try clear hcz43_1
            try clear hcz45_0
            try clear hcz45_1
            try clear hcz46_0
            try clear hcz46_1
            try clear hfz12_0
            try clear hfz12_1
            try clear hfz14_0
            try clear hfz14_1
            try clear hfz20_0
            try clear hfz20_1
            try clear hfz21_0
            try clear hfz21_1
            try clear hfz23_0
            try clear hfz23_1
            try clear hfz30_0
            try clear hfz30_1
            try clear hfz31_0
            try clear hfz31_1
            try clear hfz43_0
            try clear hfz43_1
            try clear hfz45_0
            try clear hfz45_1
            try clear hfz46_0
            try clear hfz46_1
            try clear p2
            obtain ⟨kq, HA, HJ17, BK425, BK426, HB⟩ := hcut
            cases kq with
            | zero => exact absurd HA.out (by simp [squelchlaw04_CallBytes.j2])
            | succ kj17 =>
              have H := HA.out
              clear HA
              simp only [squelchlaw04_CallBytes.j2] at H
              replace H := Option.bind_eq_some_iff.mp H
              obtain ⟨⟨t438, t439, t440, t441, t442⟩, A490, H⟩ := H
              replace H : ((squelchref04_Get.f kj17 a2).bind fun bt444 => (if bt444.2.2.2.2 = true then (if (t438.toList == bt444.1.toList && (t439 == bt444.2.1)) = true then (if (t440 == bt444.2.2.1) = true then (if (t441 == bt444.2.2.2.1) = true then (some (t442 == 0)) else (some false)) else (some false)) else (some false)) else (if (a2.size : Int) < 7 then (if (t438.toList == bt444.1.toList && (t439 == bt444.2.1)) = true then (if (t440 == bt444.2.2.1) = true then (if (t441 == bt444.2.2.2.1) = true then (some (t442 == 4)) else (some false)) else (some false)) else (some false)) else (if (a2.size : Int) > 7 then (if (t438.toList == bt444.1.toList && (t439 == bt444.2.1)) = true then (if (t440 == bt444.2.2.1) = true then (if (t441 == bt444.2.2.2.1) = true then (some (t442 == 5)) else (some false)) else (some false)) else (some false)) else (if (t438.toList == bt444.1.toList && (t439 == bt444.2.1)) = true then (if (t440 == bt444.2.2.1) = true then (if (t441 == bt444.2.2.2.1) = true then (some (t442 == 2)) else (some false)) else (some false)) else (some false)))))) = some r := H
              have A49 := Aside0.mk A490
              clear A490
              replace H := Option.bind_eq_some_iff.mp H
              obtain ⟨⟨t444, t445, t446, t447, t448⟩, A500, H⟩ := H
              replace H : (if t448 = true then (if (t438.toList == t444.toList && (t439 == t445)) = true then (if (t440 == t446) = true then (if (t441 == t447) = true then (some (t442 == 0)) else (some false)) else (some false)) else (some false)) else (if (a2.size : Int) < 7 then (if (t438.toList == t444.toList && (t439 == t445)) = true then (if (t440 == t446) = true then (if (t441 == t447) = true then (some (t442 == 4)) else (some false)) else (some false)) else (some false)) else (if (a2.size : Int) > 7 then (if (t438.toList == t444.toList && (t439 == t445)) = true then (if (t440 == t446) = true then (if (t441 == t447) = true then (some (t442 == 5)) else (some false)) else (some false)) else (some false)) else (if (t438.toList == t444.toList && (t439 == t445)) = true then (if (t440 == t446) = true then (if (t441 == t447) = true then (some (t442 == 2)) else (some false)) else (some false)) else (some false))))) = some r := H
              have A50 := Aside0.mk A500
              clear A500
              by_cases c51 : t448 = true
              · subst c51
                have H1 : (if (t438.toList == t444.toList && (t439 == t445)) = true then (if (t440 == t446) = true then (if (t441 == t447) = true then (some (t442 == 0)) else (some false)) else (some false)) else (some false)) = some r := by rw [if_pos rfl] at H; exact H
                clear H
                have H := H1
                clear H1
                by_cases c52 : (t438.toList == t444.toList && (t439 == t445)) = true
                · rw [if_pos c52] at H
                  have c52b0 : (t438.toList == t444.toList && (t439 == t445)) = true := c52
                  (try (have c52b1 : decide (t438.toList = t444.toList && (t439 == t445)) = true := by simpa using c52))
                  (try (have c52b2 : (t438.toList == t444.toList && (t439 == t445)) = true := by simpa using c52))
                  clear c52
                  by_cases c53 : (t440 == t446) = true
                  · rw [if_pos c53] at H
                    have c53b0 : (t440 == t446) = true := c53
                    (try (have c53b1 : decide (t440 = t446) = true := by simpa using c53))
                    (try (have c53b2 : (t440 == t446) = true := by simpa using c53))
                    clear c53
                    by_cases c54 : (t441 == t447) = true
                    · rw [if_pos c54] at H
                      have c54b0 : (t441 == t447) = true := c54
                      (try (have c54b1 : decide (t441 = t447) = true := by simpa using c54))
                      (try (have c54b2 : (t441 == t447) = true := by simpa using c54))
                      clear c54
                      obtain rfl := Option.some.inj H
                      go_wp2_with (first | ((with_reducible refine gate_callee (f := 54) rfl ?_); refine goesL_ (some 91) rfl rfl Tryd.func54 (by kernel_rfl) rfl #[.string a2] rfl (by (try simp only [List.map_toArray, List.map_cons, List.map_nil]); first | done | rfl | (simp only [List.length_drop, List.length_take]; rfl)) ?_; (with_reducible refine (call_Get.calls a2 t438 t439 t440 t441 t442 _ A49.out).mono ?_); rintro e w55 ⟨rfl, hb⟩; refine ⟨_, rfl, ?_⟩; have n0_ := Aside0.mk (blk_below (g := gb425) (o := .cells #[.string a0_0, .int .i64 a0_1] 23 (0, 0)) (by (with_reducible repeat (first | refine blk_drewN ?_ _ | refine blk_drew ?_ | refine blk_alloc ?_ _)); exact BK425.out) hb); have n1_ := Aside0.mk (blk_below (g := gb426) (o := .cells #[.bool a1_0, .bool a1_1] 81 (0, 0)) (by (with_reducible repeat (first | refine blk_drewN ?_ _ | refine blk_drew ?_ | refine blk_alloc ?_ _)); exact BK426.out) hb); have n2_ := Aside0.mk (below_step (by repeat (first | (with_reducible first | exact HB.out | apply below_alloc | apply pw_below_drewN | apply below_drew1 | refine below_set ?_ GE425.out | refine below_set ?_ GE426.out) | exact HB.out)) hb); clear BK425; clear BK426; clear HB; have BK425 := n0_; have BK426 := n1_; have HB := n2_; clear n0_ n1_ n2_; (try clear hb); (try clear hb2); (try clear hk); (try clear hi)) | ((with_reducible refine gate_dst (N := 13) rfl ?_); (try (refine gate_guard (by rfl) ?_; dsimp only)); refine box_event ?hg (N := 13) ?hd (cs := #[.string (⟨#[]⟩ : ByteArray), .int .i64 0]) (t := 23) ?hr ?_; (case hd => rfl); (case hg => rfl); (case hr => first | (go_simp; done) | (go_simp; rfl)); intro gb443 hg w56 hbox hb; have n0_ := Aside0.mk (blk_below (g := gb425) (o := .cells #[.string a0_0, .int .i64 a0_1] 23 (0, 0)) (by (with_reducible repeat (first | refine blk_drewN ?_ _ | refine blk_drew ?_ | refine blk_alloc ?_ _)); exact BK425.out) hb); have n1_ := Aside0.mk (blk_below (g := gb426) (o := .cells #[.bool a1_0, .bool a1_1] 81 (0, 0)) (by (with_reducible repeat (first | refine blk_drewN ?_ _ | refine blk_drew ?_ | refine blk_alloc ?_ _)); exact BK426.out) hb); have n2_ := Aside0.mk (below_step (by repeat (first | (with_reducible first | exact HB.out | apply below_alloc | apply pw_below_drewN | apply below_drew1 | refine below_set ?_ GE425.out | refine below_set ?_ GE426.out) | exact HB.out)) hb); have n3_ := Aside0.mk (hbox); have n4_ := Aside0.mk ((by rw [hg]; exact (below_size (by repeat (first | (with_reducible first | exact HB.out | apply below_alloc | apply pw_below_drewN | apply below_drew1 | refine below_set ?_ GE425.out | refine below_set ?_ GE426.out) | exact HB.out))) : w.heap.size ≤ gb443)); have n5_ := Aside0.mk ((by rw [hg]; exact (below_size (by repeat (first | (with_reducible first | exact HB.out | apply below_alloc | apply pw_below_drewN | apply below_drew1 | refine below_set ?_ GE425.out | refine below_set ?_ GE426.out) | exact HB.out))) : w.heap.size ≤ gb443)); have n6_ := Aside0.mk ((by rw [hg]; exact Nat.ne_of_lt (blk_lt (g := gb425) (o := .cells #[.string a0_0, .int .i64 a0_1] 23 (0, 0)) (by (with_reducible repeat (first | refine blk_drewN ?_ _ | refine blk_drew ?_ | refine blk_alloc ?_ _)); exact BK425.out)) : gb425 ≠ gb443)); have n7_ := Aside0.mk ((by rw [hg]; exact Nat.ne_of_gt (blk_lt (g := gb425) (o := .cells #[.string a0_0, .int .i64 a0_1] 23 (0, 0)) (by (with_reducible repeat (first | refine blk_drewN ?_ _ | refine blk_drew ?_ | refine blk_alloc ?_ _)); exact BK425.out)) : gb443 ≠ gb425)); have n8_ := Aside0.mk ((by rw [hg]; exact Nat.ne_of_lt (blk_lt (g := gb426) (o := .cells #[.bool a1_0, .bool a1_1] 81 (0, 0)) (by (with_reducible repeat (first | refine blk_drewN ?_ _ | refine blk_drew ?_ | refine blk_alloc ?_ _)); exact BK426.out)) : gb426 ≠ gb443)); have n9_ := Aside0.mk ((by rw [hg]; exact Nat.ne_of_gt (blk_lt (g := gb426) (o := .cells #[.bool a1_0, .bool a1_1] 81 (0, 0)) (by (with_reducible repeat (first | refine blk_drewN ?_ _ | refine blk_drew ?_ | refine blk_alloc ?_ _)); exact BK426.out)) : gb443 ≠ gb426)); clear BK425; clear BK426; clear HB; have BK425 := n0_; have BK426 := n1_; have HB := n2_; have BK443 := n3_; have GW443 := n4_; have GE443 := n5_; have NB425_443 := n6_; have NB443_425 := n7_; have NB426_443 := n8_; have NB443_426 := n9_; clear n0_ n1_ n2_ n3_ n4_ n5_ n6_ n7_ n8_ n9_; clear hb hbox hg; have hnb57 := NB443_425.out; have hnc57 := NB425_443.out; have hnb58 := NB443_426.out; have hnc58 := NB426_443.out; have hcz59_0 : w56.cell? ⟨gb443, 0, none⟩ = some (.string (⟨#[]⟩ : ByteArray)) := (blk_cell BK443.out 0).trans rfl; have hcz59_1 : w56.cell? ⟨gb443, 1, none⟩ = some (.int .i64 0) := (blk_cell BK443.out 1).trans rfl; have hfz59_0 := blk_frozen BK443.out 0; have hfz59_1 := blk_frozen BK443.out 1) | ((with_reducible refine gate_callee (f := 55) rfl ?_); refine goesL_ (some 98) rfl rfl Tryd.func55 (by kernel_rfl) rfl #[.string a2] rfl (by (try simp only [List.map_toArray, List.map_cons, List.map_nil]); first | done | rfl | (simp only [List.length_drop, List.length_take]; rfl)) ?_; (with_reducible refine (squelchref04_Get.calls kj17 a2 t444 t445 t446 t447 true _ A50.out).mono ?_); rintro e w60 ⟨rfl, hb⟩; refine ⟨_, rfl, ?_⟩; have n0_ := Aside0.mk (blk_below (g := gb425) (o := .cells #[.string a0_0, .int .i64 a0_1] 23 (0, 0)) (by (with_reducible repeat (first | refine blk_drewN ?_ _ | refine blk_drew ?_ | refine blk_alloc ?_ _)); refine blk_far ?_ NB425_443.out _; (with_reducible repeat (first | refine blk_drewN ?_ _ | refine blk_drew ?_ | refine blk_alloc ?_ _)); refine blk_far ?_ NB425_443.out _; (with_reducible repeat (first | refine blk_drewN ?_ _ | refine blk_drew ?_ | refine blk_alloc ?_ _)); exact BK425.out) hb); have n1_ := Aside0.mk (blk_below (g := gb426) (o := .cells #[.bool a1_0, .bool a1_1] 81 (0, 0)) (by (with_reducible repeat (first | refine blk_drewN ?_ _ | refine blk_drew ?_ | refine blk_alloc ?_ _)); refine blk_far ?_ NB426_443.out _; (with_reducible repeat (first | refine blk_drewN ?_ _ | refine blk_drew ?_ | refine blk_alloc ?_ _)); refine blk_far ?_ NB426_443.out _; (with_reducible repeat (first | refine blk_drewN ?_ _ | refine blk_drew ?_ | refine blk_alloc ?_ _)); exact BK426.out) hb); have n2_ := Aside0.mk (blk_below (g := gb443) (o := .cells #[.string t438, .int .i64 t439] 23 (0, 0)) (by (with_reducible repeat (first | refine blk_drewN ?_ _ | refine blk_drew ?_ | refine blk_alloc ?_ _)); refine blk_put (cs := #[.string t438, .int .i64 0]) ?_ 1 _ rfl; (with_reducible repeat (first | refine blk_drewN ?_ _ | refine blk_drew ?_ | refine blk_alloc ?_ _)); refine blk_put (cs := #[.string (⟨#[]⟩ : ByteArray), .int .i64 0]) ?_ 0 _ rfl; (with_reducible repeat (first | refine blk_drewN ?_ _ | refine blk_drew ?_ | refine blk_alloc ?_ _)); exact BK443.out) hb); have n3_ := Aside0.mk (below_step (by repeat (first | (with_reducible first | exact HB.out | apply below_alloc | apply pw_below_drewN | apply below_drew1 | refine below_set ?_ GE425.out | refine below_set ?_ GE426.out | refine below_set ?_ GE443.out) | exact HB.out)) hb); clear BK425; clear BK426; clear BK443; clear HB; have BK425 := n0_; have BK426 := n1_; have BK443 := n2_; have HB := n3_; clear n0_ n1_ n2_ n3_; (try clear hb); (try clear hb2); (try clear hk); (try clear hi)) | ((with_reducible refine gate_dst (N := 17) rfl ?_); (try (refine gate_guard (by rfl) ?_; dsimp only)); refine box_event ?hg (N := 17) ?hd (cs := #[.string (⟨#[]⟩ : ByteArray), .int .i64 0]) (t := 23) ?hr ?_; (case hd => rfl); (case hg => rfl); (case hr => first | (go_simp; done) | (go_simp; rfl)); intro gb449 hg w61 hbox hb; have n0_ := Aside0.mk (blk_below (g := gb425) (o := .cells #[.string a0_0, .int .i64 a0_1] 23 (0, 0)) (by (with_reducible repeat (first | refine blk_drewN ?_ _ | refine blk_drew ?_ | refine blk_alloc ?_ _)); exact BK425.out) hb); have n1_ := Aside0.mk (blk_below (g := gb426) (o := .cells #[.bool a1_0, .bool a1_1] 81 (0, 0)) (by (with_reducible repeat (first | refine blk_drewN ?_ _ | refine blk_drew ?_ | refine blk_alloc ?_ _)); exact BK426.out) hb); have n2_ := Aside0.mk (blk_below (g := gb443) (o := .cells #[.string t438, .int .i64 t439] 23 (0, 0)) (by (with_reducible repeat (first | refine blk_drewN ?_ _ | refine blk_drew ?_ | refine blk_alloc ?_ _)); exact BK443.out) hb); have n3_ := Aside0.mk (below_step (by repeat (first | (with_reducible first | exact HB.out | apply below_alloc | apply pw_below_drewN | apply below_drew1 | refine below_set ?_ GE425.out | refine below_set ?_ GE426.out | refine below_set ?_ GE443.out) | exact HB.out)) hb); have n4_ := Aside0.mk (hbox); have n5_ := Aside0.mk ((by rw [hg]; exact (below_size (by repeat (first | (with_reducible first | exact HB.out | apply below_alloc | apply pw_below_drewN | apply below_drew1 | refine below_set ?_ GE425.out | refine below_set ?_ GE426.out | refine below_set ?_ GE443.out) | exact HB.out))) : w.heap.size ≤ gb449)); have n6_ := Aside0.mk ((by rw [hg]; exact (below_size (by repeat (first | (with_reducible first | exact HB.out | apply below_alloc | apply pw_below_drewN | apply below_drew1 | refine below_set ?_ GE425.out | refine below_set ?_ GE426.out | refine below_set ?_ GE443.out) | exact HB.out))) : w.heap.size ≤ gb449)); have n7_ := Aside0.mk ((by rw [hg]; exact Nat.ne_of_lt (blk_lt (g := gb425) (o := .cells #[.string a0_0, .int .i64 a0_1] 23 (0, 0)) (by (with_reducible repeat (first | refine blk_drewN ?_ _ | refine blk_drew ?_ | refine blk_alloc ?_ _)); exact BK425.out)) : gb425 ≠ gb449)); have n8_ := Aside0.mk ((by rw [hg]; exact Nat.ne_of_gt (blk_lt (g := gb425) (o := .cells #[.string a0_0, .int .i64 a0_1] 23 (0, 0)) (by (with_reducible repeat (first | refine blk_drewN ?_ _ | refine blk_drew ?_ | refine blk_alloc ?_ _)); exact BK425.out)) : gb449 ≠ gb425)); have n9_ := Aside0.mk ((by rw [hg]; exact Nat.ne_of_lt (blk_lt (g := gb426) (o := .cells #[.bool a1_0, .bool a1_1] 81 (0, 0)) (by (with_reducible repeat (first | refine blk_drewN ?_ _ | refine blk_drew ?_ | refine blk_alloc ?_ _)); exact BK426.out)) : gb426 ≠ gb449)); have n10_ := Aside0.mk ((by rw [hg]; exact Nat.ne_of_gt (blk_lt (g := gb426) (o := .cells #[.bool a1_0, .bool a1_1] 81 (0, 0)) (by (with_reducible repeat (first | refine blk_drewN ?_ _ | refine blk_drew ?_ | refine blk_alloc ?_ _)); exact BK426.out)) : gb449 ≠ gb426)); have n11_ := Aside0.mk ((by rw [hg]; exact Nat.ne_of_lt (blk_lt (g := gb443) (o := .cells #[.string t438, .int .i64 t439] 23 (0, 0)) (by (with_reducible repeat (first | refine blk_drewN ?_ _ | refine blk_drew ?_ | refine blk_alloc ?_ _)); exact BK443.out)) : gb443 ≠ gb449)); have n12_ := Aside0.mk ((by rw [hg]; exact Nat.ne_of_gt (blk_lt (g := gb443) (o := .cells #[.string t438, .int .i64 t439] 23 (0, 0)) (by (with_reducible repeat (first | refine blk_drewN ?_ _ | refine blk_drew ?_ | refine blk_alloc ?_ _)); exact BK443.out)) : gb449 ≠ gb443)); clear BK425; clear BK426; clear BK443; clear HB; have BK425 := n0_; have BK426 := n1_; have BK443 := n2_; have HB := n3_; have BK449 := n4_; have GW449 := n5_; have GE449 := n6_; have NB425_449 := n7_; have NB449_425 := n8_; have NB426_449 := n9_; have NB449_426 := n10_; have NB443_449 := n11_; have NB449_443 := n12_; clear n0_ n1_ n2_ n3_ n4_ n5_ n6_ n7_ n8_ n9_ n10_ n11_ n12_; clear hb hbox hg; have hnb62 := NB449_425.out; have hnc62 := NB425_449.out; have hnb63 := NB449_426.out; have hnc63 := NB426_449.out; have hnb64 := NB449_443.out; have hnc64 := NB443_449.out; have hcz65_0 : w61.cell? ⟨gb449, 0, none⟩ = some (.string (⟨#[]⟩ : ByteArray)) := (blk_cell BK449.out 0).trans rfl; have hcz65_1 : w61.cell? ⟨gb449, 1, none⟩ = some (.int .i64 0) := (blk_cell BK449.out 1).trans rfl; have hfz65_0 := blk_frozen BK449.out 0; have hfz65_1 := blk_frozen BK449.out 1; have hcz66_0 : w61.cell? ⟨gb443, 0, none⟩ = some (.string t438) := (blk_cell BK443.out 0).trans rfl; have hcz66_1 : w61.cell? ⟨gb443, 1, none⟩ = some (.int .i64 t439) := (blk_cell BK443.out 1).trans rfl; have hfz66_0 := blk_frozen BK443.out 0; have hfz66_1 := blk_frozen BK443.out 1))
                      go_ret
                      exact ⟨by first | rfl | (simp [errW_none, errW_some] <;> rfl) | (simp [*, errW_none, errW_some] <;> rfl), by repeat (first | (with_reducible first | exact HB.out | apply below_alloc | apply pw_below_drewN | apply below_drew1 | refine below_set ?_ GE425.out | refine below_set ?_ GE426.out | refine below_set ?_ GE443.out | refine below_set ?_ GE449.out) | exact HB.out)⟩
                    · rw [if_neg c54] at H
                      have c54b0 : (t441 == t447) = false := by simpa using c54
                      (try (have c54b1 : decide (t441 = t447) = false := by simpa using c54))
                      (try (have c54b2 : (t441 == t447) = false := by simpa using c54))
                      (try (have c54b3 : ¬ (t441 = t447) := by simpa using c54))
                      clear c54
                      exact absurd ((Option.some.inj H).trans HT_.out) (by decide)
                  · rw [if_neg c53] at H
                    have c53b0 : (t440 == t446) = false := by simpa using c53
                    (try (have c53b1 : decide (t440 = t446) = false := by simpa using c53))
                    (try (have c53b2 : (t440 == t446) = false := by simpa using c53))
                    (try (have c53b3 : ¬ (t440 = t446) := by simpa using c53))
                    clear c53
                    exact absurd ((Option.some.inj H).trans HT_.out) (by decide)
                · rw [if_neg c52] at H
                  have c52b0 : (t438.toList == t444.toList && (t439 == t445)) = false := by simpa using c52
                  (try (have c52b1 : decide (t438.toList = t444.toList && (t439 == t445)) = false := by simpa using c52))
                  (try (have c52b2 : (t438.toList == t444.toList && (t439 == t445)) = false := by simpa using c52))
                  (try (have c52b3 : ¬ (t438.toList = t444.toList && (t439 == t445)) := by simpa using c52))
                  clear c52
                  exact absurd ((Option.some.inj H).trans HT_.out) (by decide)
              · replace c51 := Bool.eq_false_iff.mpr c51
                subst c51
                have H1 : (if (a2.size : Int) < 7 then (if (t438.toList == t444.toList && (t439 == t445)) = true then (if (t440 == t446) = true then (if (t441 == t447) = true then (some (t442 == 4)) else (some false)) else (some false)) else (some false)) else (if (a2.size : Int) > 7 then (if (t438.toList == t444.toList && (t439 == t445)) = true then (if (t440 == t446) = true then (if (t441 == t447) = true then (some (t442 == 5)) else (some false)) else (some false)) else (some false)) else (if (t438.toList == t444.toList && (t439 == t445)) = true then (if (t440 == t446) = true then (if (t441 == t447) = true then (some (t442 == 2)) else (some false)) else (some false)) else (some false)))) = some r := by rw [if_neg (show ¬ (false = true) by decide)] at H; exact H
                clear H
                have H := H1
                clear H1
                by_cases c67 : (a2.size : Int) < 7
                · rw [if_pos c67] at H
                  have c67b0 : decide ((a2.size : Int) < 7) = true := decide_eq_true c67
                  have c67b1 : decide (a2.size < 7) = true := decide_eq_true (by omega)
                  clear c67
                  by_cases c68 : (t438.toList == t444.toList && (t439 == t445)) = true
                  · rw [if_pos c68] at H
                    have c68b0 : (t438.toList == t444.toList && (t439 == t445)) = true := c68
                    (try (have c68b1 : decide (t438.toList = t444.toList && (t439 == t445)) = true := by simpa using c68))
                    (try (have c68b2 : (t438.toList == t444.toList && (t439 == t445)) = true := by simpa using c68))
                    clear c68
                    by_cases c69 : (t440 == t446) = true
                    · rw [if_pos c69] at H
                      have c69b0 : (t440 == t446) = true := c69
                      (try (have c69b1 : decide (t440 = t446) = true := by simpa using c69))
                      (try (have c69b2 : (t440 == t446) = true := by simpa using c69))
                      clear c69
                      by_cases c70 : (t441 == t447) = true
                      · rw [if_pos c70] at H
                        have c70b0 : (t441 == t447) = true := c70
                        (try (have c70b1 : decide (t441 = t447) = true := by simpa using c70))
                        (try (have c70b2 : (t441 == t447) = true := by simpa using c70))
                        clear c70
                        obtain rfl := Option.some.inj H
                        go_wp2_with (first | ((with_reducible refine gate_callee (f := 54) rfl ?_); refine goesL_ (some 91) rfl rfl Tryd.func54 (by kernel_rfl) rfl #[.string a2] rfl (by (try simp only [List.map_toArray, List.map_cons, List.map_nil]); first | done | rfl | (simp only [List.length_drop, List.length_take]; rfl)) ?_; (with_reducible refine (call_Get.calls a2 t438 t439 t440 t441 t442 _ A49.out).mono ?_); rintro e w71 ⟨rfl, hb⟩; refine ⟨_, rfl, ?_⟩; have n0_ := Aside0.mk (blk_below (g := gb425) (o := .cells #[.string a0_0, .int .i64 a0_1] 23 (0, 0)) (by (with_reducible repeat (first | refine blk_drewN ?_ _ | refine blk_drew ?_ | refine blk_alloc ?_ _)); exact BK425.out) hb); have n1_ := Aside0.mk (blk_below (g := gb426) (o := .cells #[.bool a1_0, .bool a1_1] 81 (0, 0)) (by (with_reducible repeat (first | refine blk_drewN ?_ _ | refine blk_drew ?_ | refine blk_alloc ?_ _)); exact BK426.out) hb); have n2_ := Aside0.mk (below_step (by repeat (first | (with_reducible first | exact HB.out | apply below_alloc | apply pw_below_drewN | apply below_drew1 | refine below_set ?_ GE425.out | refine below_set ?_ GE426.out) | exact HB.out)) hb); clear BK425; clear BK426; clear HB; have BK425 := n0_; have BK426 := n1_; have HB := n2_; clear n0_ n1_ n2_; (try clear hb); (try clear hb2); (try clear hk); (try clear hi)) | ((with_reducible refine gate_dst (N := 13) rfl ?_); (try (refine gate_guard (by rfl) ?_; dsimp only)); refine box_event ?hg (N := 13) ?hd (cs := #[.string (⟨#[]⟩ : ByteArray), .int .i64 0]) (t := 23) ?hr ?_; (case hd => rfl); (case hg => rfl); (case hr => first | (go_simp; done) | (go_simp; rfl)); intro gb443 hg w72 hbox hb; have n0_ := Aside0.mk (blk_below (g := gb425) (o := .cells #[.string a0_0, .int .i64 a0_1] 23 (0, 0)) (by (with_reducible repeat (first | refine blk_drewN ?_ _ | refine blk_drew ?_ | refine blk_alloc ?_ _)); exact BK425.out) hb); have n1_ := Aside0.mk (blk_below (g := gb426) (o := .cells #[.bool a1_0, .bool a1_1] 81 (0, 0)) (by (with_reducible repeat (first | refine blk_drewN ?_ _ | refine blk_drew ?_ | refine blk_alloc ?_ _)); exact BK426.out) hb); have n2_ := Aside0.mk (below_step (by repeat (first | (with_reducible first | exact HB.out | apply below_alloc | apply pw_below_drewN | apply below_drew1 | refine below_set ?_ GE425.out | refine below_set ?_ GE426.out) | exact HB.out)) hb); have n3_ := Aside0.mk (hbox); have n4_ := Aside0.mk ((by rw [hg]; exact (below_size (by repeat (first | (with_reducible first | exact HB.out | apply below_alloc | apply pw_below_drewN | apply below_drew1 | refine below_set ?_ GE425.out | refine below_set ?_ GE426.out) | exact HB.out))) : w.heap.size ≤ gb443)); have n5_ := Aside0.mk ((by rw [hg]; exact (below_size (by repeat (first | (with_reducible first | exact HB.out | apply below_alloc | apply pw_below_drewN | apply below_drew1 | refine below_set ?_ GE425.out | refine below_set ?_ GE426.out) | exact HB.out))) : w.heap.size ≤ gb443)); have n6_ := Aside0.mk ((by rw [hg]; exact Nat.ne_of_lt (blk_lt (g := gb425) (o := .cells #[.string a0_0, .int .i64 a0_1] 23 (0, 0)) (by (with_reducible repeat (first | refine blk_drewN ?_ _ | refine blk_drew ?_ | refine blk_alloc ?_ _)); exact BK425.out)) : gb425 ≠ gb443)); have n7_ := Aside0.mk ((by rw [hg]; exact Nat.ne_of_gt (blk_lt (g := gb425) (o := .cells #[.string a0_0, .int .i64 a0_1] 23 (0, 0)) (by (with_reducible repeat (first | refine blk_drewN ?_ _ | refine blk_drew ?_ | refine blk_alloc ?_ _)); exact BK425.out)) : gb443 ≠ gb425)); have n8_ := Aside0.mk ((by rw [hg]; exact Nat.ne_of_lt (blk_lt (g := gb426) (o := .cells #[.bool a1_0, .bool a1_1] 81 (0, 0)) (by (with_reducible repeat (first | refine blk_drewN ?_ _ | refine blk_drew ?_ | refine blk_alloc ?_ _)); exact BK426.out)) : gb426 ≠ gb443)); have n9_ := Aside0.mk ((by rw [hg]; exact Nat.ne_of_gt (blk_lt (g := gb426) (o := .cells #[.bool a1_0, .bool a1_1] 81 (0, 0)) (by (with_reducible repeat (first | refine blk_drewN ?_ _ | refine blk_drew ?_ | refine blk_alloc ?_ _)); exact BK426.out)) : gb443 ≠ gb426)); clear BK425; clear BK426; clear HB; have BK425 := n0_; have BK426 := n1_; have HB := n2_; have BK443 := n3_; have GW443 := n4_; have GE443 := n5_; have NB425_443 := n6_; have NB443_425 := n7_; have NB426_443 := n8_; have NB443_426 := n9_; clear n0_ n1_ n2_ n3_ n4_ n5_ n6_ n7_ n8_ n9_; clear hb hbox hg; have hnb73 := NB443_425.out; have hnc73 := NB425_443.out; have hnb74 := NB443_426.out; have hnc74 := NB426_443.out; have hcz75_0 : w72.cell? ⟨gb443, 0, none⟩ = some (.string (⟨#[]⟩ : ByteArray)) := (blk_cell BK443.out 0).trans rfl; have hcz75_1 : w72.cell? ⟨gb443, 1, none⟩ = some (.int .i64 0) := (blk_cell BK443.out 1).trans rfl; have hfz75_0 := blk_frozen BK443.out 0; have hfz75_1 := blk_frozen BK443.out 1) | ((with_reducible refine gate_callee (f := 55) rfl ?_); refine goesL_ (some 98) rfl rfl Tryd.func55 (by kernel_rfl) rfl #[.string a2] rfl (by (try simp only [List.map_toArray, List.map_cons, List.map_nil]); first | done | rfl | (simp only [List.length_drop, List.length_take]; rfl)) ?_; (with_reducible refine (squelchref04_Get.calls kj17 a2 t444 t445 t446 t447 false _ A50.out).mono ?_); rintro e w76 ⟨rfl, hb⟩; refine ⟨_, rfl, ?_⟩; have n0_ := Aside0.mk (blk_below (g := gb425) (o := .cells #[.string a0_0, .int .i64 a0_1] 23 (0, 0)) (by (with_reducible repeat (first | refine blk_drewN ?_ _ | refine blk_drew ?_ | refine blk_alloc ?_ _)); refine blk_far ?_ NB425_443.out _; (with_reducible repeat (first | refine blk_drewN ?_ _ | refine blk_drew ?_ | refine blk_alloc ?_ _)); refine blk_far ?_ NB425_443.out _; (with_reducible repeat (first | refine blk_drewN ?_ _ | refine blk_drew ?_ | refine blk_alloc ?_ _)); exact BK425.out) hb); have n1_ := Aside0.mk (blk_below (g := gb426) (o := .cells #[.bool a1_0, .bool a1_1] 81 (0, 0)) (by (with_reducible repeat (first | refine blk_drewN ?_ _ | refine blk_drew ?_ | refine blk_alloc ?_ _)); refine blk_far ?_ NB426_443.out _; (with_reducible repeat (first | refine blk_drewN ?_ _ | refine blk_drew ?_ | refine blk_alloc ?_ _)); refine blk_far ?_ NB426_443.out _; (with_reducible repeat (first | refine blk_drewN ?_ _ | refine blk_drew ?_ | refine blk_alloc ?_ _)); exact BK426.out) hb); have n2_ := Aside0.mk (blk_below (g := gb443) (o := .cells #[.string t438, .int .i64 t439] 23 (0, 0)) (by (with_reducible repeat (first | refine blk_drewN ?_ _ | refine blk_drew ?_ | refine blk_alloc ?_ _)); refine blk_put (cs := #[.string t438, .int .i64 0]) ?_ 1 _ rfl; (with_reducible repeat (first | refine blk_drewN ?_ _ | refine blk_drew ?_ | refine blk_alloc ?_ _)); refine blk_put (cs := #[.string (⟨#[]⟩ : ByteArray), .int .i64 0]) ?_ 0 _ rfl; (with_reducible repeat (first | refine blk_drewN ?_ _ | refine blk_drew ?_ | refine blk_alloc ?_ _)); exact BK443.out) hb); have n3_ := Aside0.mk (below_step (by repeat (first | (with_reducible first | exact HB.out | apply below_alloc | apply pw_below_drewN | apply below_drew1 | refine below_set ?_ GE425.out | refine below_set ?_ GE426.out | refine below_set ?_ GE443.out) | exact HB.out)) hb); clear BK425; clear BK426; clear BK443; clear HB; have BK425 := n0_; have BK426 := n1_; have BK443 := n2_; have HB := n3_; clear n0_ n1_ n2_ n3_; (try clear hb); (try clear hb2); (try clear hk); (try clear hi)) | ((with_reducible refine gate_dst (N := 17) rfl ?_); (try (refine gate_guard (by rfl) ?_; dsimp only)); refine box_event ?hg (N := 17) ?hd (cs := #[.string (⟨#[]⟩ : ByteArray), .int .i64 0]) (t := 23) ?hr ?_; (case hd => rfl); (case hg => rfl); (case hr => first | (go_simp; done) | (go_simp; rfl)); intro gb449 hg w77 hbox hb; have n0_ := Aside0.mk (blk_below (g := gb425) (o := .cells #[.string a0_0, .int .i64 a0_1] 23 (0, 0)) (by (with_reducible repeat (first | refine blk_drewN ?_ _ | refine blk_drew ?_ | refine blk_alloc ?_ _)); exact BK425.out) hb); have n1_ := Aside0.mk (blk_below (g := gb426) (o := .cells #[.bool a1_0, .bool a1_1] 81 (0, 0)) (by (with_reducible repeat (first | refine blk_drewN ?_ _ | refine blk_drew ?_ | refine blk_alloc ?_ _)); exact BK426.out) hb); have n2_ := Aside0.mk (blk_below (g := gb443) (o := .cells #[.string t438, .int .i64 t439] 23 (0, 0)) (by (with_reducible repeat (first | refine blk_drewN ?_ _ | refine blk_drew ?_ | refine blk_alloc ?_ _)); exact BK443.out) hb); have n3_ := Aside0.mk (below_step (by repeat (first | (with_reducible first | exact HB.out | apply below_alloc | apply pw_below_drewN | apply below_drew1 | refine below_set ?_ GE425.out | refine below_set ?_ GE426.out | refine below_set ?_ GE443.out) | exact HB.out)) hb); have n4_ := Aside0.mk (hbox); have n5_ := Aside0.mk ((by rw [hg]; exact (below_size (by repeat (first | (with_reducible first | exact HB.out | apply below_alloc | apply pw_below_drewN | apply below_drew1 | refine below_set ?_ GE425.out | refine below_set ?_ GE426.out | refine below_set ?_ GE443.out) | exact HB.out))) : w.heap.size ≤ gb449)); have n6_ := Aside0.mk ((by rw [hg]; exact (below_size (by repeat (first | (with_reducible first | exact HB.out | apply below_alloc | apply pw_below_drewN | apply below_drew1 | refine below_set ?_ GE425.out | refine below_set ?_ GE426.out | refine below_set ?_ GE443.out) | exact HB.out))) : w.heap.size ≤ gb449)); have n7_ := Aside0.mk ((by rw [hg]; exact Nat.ne_of_lt (blk_lt (g := gb425) (o := .cells #[.string a0_0, .int .i64 a0_1] 23 (0, 0)) (by (with_reducible repeat (first | refine blk_drewN ?_ _ | refine blk_drew ?_ | refine blk_alloc ?_ _)); exact BK425.out)) : gb425 ≠ gb449)); have n8_ := Aside0.mk ((by rw [hg]; exact Nat.ne_of_gt (blk_lt (g := gb425) (o := .cells #[.string a0_0, .int .i64 a0_1] 23 (0, 0)) (by (with_reducible repeat (first | refine blk_drewN ?_ _ | refine blk_drew ?_ | refine blk_alloc ?_ _)); exact BK425.out)) : gb449 ≠ gb425)); have n9_ := Aside0.mk ((by rw [hg]; exact Nat.ne_of_lt (blk_lt (g := gb426) (o := .cells #[.bool a1_0, .bool a1_1] 81 (0, 0)) (by (with_reducible repeat (first | refine blk_drewN ?_ _ | refine blk_drew ?_ | refine blk_alloc ?_ _)); exact BK426.out)) : gb426 ≠ gb449)); have n10_ := Aside0.mk ((by rw [hg]; exact Nat.ne_of_gt (blk_lt (g := gb426) (o := .cells #[.bool a1_0, .bool a1_1] 81 (0, 0)) (by (with_reducible repeat (first | refine blk_drewN ?_ _ | refine blk_drew ?_ | refine blk_alloc ?_ _)); exact BK426.out)) : gb449 ≠ gb426)); have n11_ := Aside0.mk ((by rw [hg]; exact Nat.ne_of_lt (blk_lt (g := gb443) (o := .cells #[.string t438, .int .i64 t439] 23 (0, 0)) (by (with_reducible repeat (first | refine blk_drewN ?_ _ | refine blk_drew ?_ | refine blk_alloc ?_ _)); exact BK443.out)) : gb443 ≠ gb449)); have n12_ := Aside0.mk ((by rw [hg]; exact Nat.ne_of_gt (blk_lt (g := gb443) (o := .cells #[.string t438, .int .i64 t439] 23 (0, 0)) (by (with_reducible repeat (first | refine blk_drewN ?_ _ | refine blk_drew ?_ | refine blk_alloc ?_ _)); exact BK443.out)) : gb449 ≠ gb443)); clear BK425; clear BK426; clear BK443; clear HB; have BK425 := n0_; have BK426 := n1_; have BK443 := n2_; have HB := n3_; have BK449 := n4_; have GW449 := n5_; have GE449 := n6_; have NB425_449 := n7_; have NB449_425 := n8_; have NB426_449 := n9_; have NB449_426 := n10_; have NB443_449 := n11_; have NB449_443 := n12_; clear n0_ n1_ n2_ n3_ n4_ n5_ n6_ n7_ n8_ n9_ n10_ n11_ n12_; clear hb hbox hg; have hnb78 := NB449_425.out; have hnc78 := NB425_449.out; have hnb79 := NB449_426.out; have hnc79 := NB426_449.out; have hnb80 := NB449_443.out; have hnc80 := NB443_449.out; have hcz81_0 : w77.cell? ⟨gb449, 0, none⟩ = some (.string (⟨#[]⟩ : ByteArray)) := (blk_cell BK449.out 0).trans rfl; have hcz81_1 : w77.cell? ⟨gb449, 1, none⟩ = some (.int .i64 0) := (blk_cell BK449.out 1).trans rfl; have hfz81_0 := blk_frozen BK449.out 0; have hfz81_1 := blk_frozen BK449.out 1; have hcz82_0 : w77.cell? ⟨gb443, 0, none⟩ = some (.string t438) := (blk_cell BK443.out 0).trans rfl; have hcz82_1 : w77.cell? ⟨gb443, 1, none⟩ = some (.int .i64 t439) := (blk_cell BK443.out 1).trans rfl; have hfz82_0 := blk_frozen BK443.out 0; have hfz82_1 := blk_frozen BK443.out 1))
                        go_ret
                        exact ⟨by first | rfl | (simp [errW_none, errW_some] <;> rfl) | (simp [*, errW_none, errW_some] <;> rfl), by repeat (first | (with_reducible first | exact HB.out | apply below_alloc | apply pw_below_drewN | apply below_drew1 | refine below_set ?_ GE425.out | refine below_set ?_ GE426.out | refine below_set ?_ GE443.out | refine below_set ?_ GE449.out) | exact HB.out)⟩
                      · rw [if_neg c70] at H
                        have c70b0 : (t441 == t447) = false := by simpa using c70
                        (try (have c70b1 : decide (t441 = t447) = false := by simpa using c70))
                        (try (have c70b2 : (t441 == t447) = false := by simpa using c70))
                        (try (have c70b3 : ¬ (t441 = t447) := by simpa using c70))
                        clear c70
                        exact absurd ((Option.some.inj H).trans HT_.out) (by decide)
                    · rw [if_neg c69] at H
                      have c69b0 : (t440 == t446) = false := by simpa using c69
                      (try (have c69b1 : decide (t440 = t446) = false := by simpa using c69))
                      (try (have c69b2 : (t440 == t446) = false := by simpa using c69))
                      (try (have c69b3 : ¬ (t440 = t446) := by simpa using c69))
                      clear c69
                      exact absurd ((Option.some.inj H).trans HT_.out) (by decide)
                  · rw [if_neg c68] at H
                    have c68b0 : (t438.toList == t444.toList && (t439 == t445)) = false := by simpa using c68
                    (try (have c68b1 : decide (t438.toList = t444.toList && (t439 == t445)) = false := by simpa using c68))
                    (try (have c68b2 : (t438.toList == t444.toList && (t439 == t445)) = false := by simpa using c68))
                    (try (have c68b3 : ¬ (t438.toList = t444.toList && (t439 == t445)) := by simpa using c68))
                    clear c68
                    exact absurd ((Option.some.inj H).trans HT_.out) (by decide)
                · rw [if_neg c67] at H
                  have c67b0 : decide ((a2.size : Int) < 7) = false := decide_eq_false c67
                  have c67b1 : decide (a2.size < 7) = false := decide_eq_false (by omega)
                  clear c67
                  by_cases c83 : (a2.size : Int) > 7
                  · rw [if_pos c83] at H
                    have c83b0 : decide (7 < (a2.size : Int)) = true := decide_eq_true c83
                    have c83b1 : decide (7 < a2.size) = true := decide_eq_true (by omega)
                    clear c83
                    by_cases c84 : (t438.toList == t444.toList && (t439 == t445)) = true
                    · rw [if_pos c84] at H
                      have c84b0 : (t438.toList == t444.toList && (t439 == t445)) = true := c84
                      (try (have c84b1 : decide (t438.toList = t444.toList && (t439 == t445)) = true := by simpa using c84))
                      (try (have c84b2 : (t438.toList == t444.toList && (t439 == t445)) = true := by simpa using c84))
                      clear c84
                      by_cases c85 : (t440 == t446) = true
                      · rw [if_pos c85] at H
                        have c85b0 : (t440 == t446) = true := c85
                        (try (have c85b1 : decide (t440 = t446) = true := by simpa using c85))
                        (try (have c85b2 : (t440 == t446) = true := by simpa using c85))
                        clear c85
                        by_cases c86 : (t441 == t447) = true
                        · rw [if_pos c86] at H
                          have c86b0 : (t441 == t447) = true := c86
                          (try (have c86b1 : decide (t441 = t447) = true := by simpa using c86))
                          (try (have c86b2 : (t441 == t447) = true := by simpa using c86))
                          clear c86
                          obtain rfl := Option.some.inj H
                          go_wp2_with (first | ((with_reducible refine gate_callee (f := 54) rfl ?_); refine goesL_ (some 91) rfl rfl Tryd.func54 (by kernel_rfl) rfl #[.string a2] rfl (by (try simp only [List.map_toArray, List.map_cons, List.map_nil]); first | done | rfl | (simp only [List.length_drop, List.length_take]; rfl)) ?_; (with_reducible refine (call_Get.calls a2 t438 t439 t440 t441 t442 _ A49.out).mono ?_); rintro e w87 ⟨rfl, hb⟩; refine ⟨_, rfl, ?_⟩; have n0_ := Aside0.mk (blk_below (g := gb425) (o := .cells #[.string a0_0, .int .i64 a0_1] 23 (0, 0)) (by (with_reducible repeat (first | refine blk_drewN ?_ _ | refine blk_drew ?_ | refine blk_alloc ?_ _)); exact BK425.out) hb); have n1_ := Aside0.mk (blk_below (g := gb426) (o := .cells #[.bool a1_0, .bool a1_1] 81 (0, 0)) (by (with_reducible repeat (first | refine blk_drewN ?_ _ | refine blk_drew ?_ | refine blk_alloc ?_ _)); exact BK426.out) hb); have n2_ := Aside0.mk (below_step (by repeat (first | (with_reducible first | exact HB.out | apply below_alloc | apply pw_below_drewN | apply below_drew1 | refine below_set ?_ GE425.out | refine below_set ?_ GE426.out) | exact HB.out)) hb); clear BK425; clear BK426; clear HB; have BK425 := n0_; have BK426 := n1_; have HB := n2_; clear n0_ n1_ n2_; (try clear hb); (try clear hb2); (try clear hk); (try clear hi)) | ((with_reducible refine gate_dst (N := 13) rfl ?_); (try (refine gate_guard (by rfl) ?_; dsimp only)); refine box_event ?hg (N := 13) ?hd (cs := #[.string (⟨#[]⟩ : ByteArray), .int .i64 0]) (t := 23) ?hr ?_; (case hd => rfl); (case hg => rfl); (case hr => first | (go_simp; done) | (go_simp; rfl)); intro gb443 hg w88 hbox hb; have n0_ := Aside0.mk (blk_below (g := gb425) (o := .cells #[.string a0_0, .int .i64 a0_1] 23 (0, 0)) (by (with_reducible repeat (first | refine blk_drewN ?_ _ | refine blk_drew ?_ | refine blk_alloc ?_ _)); exact BK425.out) hb); have n1_ := Aside0.mk (blk_below (g := gb426) (o := .cells #[.bool a1_0, .bool a1_1] 81 (0, 0)) (by (with_reducible repeat (first | refine blk_drewN ?_ _ | refine blk_drew ?_ | refine blk_alloc ?_ _)); exact BK426.out) hb); have n2_ := Aside0.mk (below_step (by repeat (first | (with_reducible first | exact HB.out | apply below_alloc | apply pw_below_drewN | apply below_drew1 | refine below_set ?_ GE425.out | refine below_set ?_ GE426.out) | exact HB.out)) hb); have n3_ := Aside0.mk (hbox); have n4_ := Aside0.mk ((by rw [hg]; exact (below_size (by repeat (first | (with_reducible first | exact HB.out | apply below_alloc | apply pw_below_drewN | apply below_drew1 | refine below_set ?_ GE425.out | refine below_set ?_ GE426.out) | exact HB.out))) : w.heap.size ≤ gb443)); have n5_ := Aside0.mk ((by rw [hg]; exact (below_size (by repeat (first | (with_reducible first | exact HB.out | apply below_alloc | apply pw_below_drewN | apply below_drew1 | refine below_set ?_ GE425.out | refine below_set ?_ GE426.out) | exact HB.out))) : w.heap.size ≤ gb443)); have n6_ := Aside0.mk ((by rw [hg]; exact Nat.ne_of_lt (blk_lt (g := gb425) (o := .cells #[.string a0_0, .int .i64 a0_1] 23 (0, 0)) (by (with_reducible repeat (first | refine blk_drewN ?_ _ | refine blk_drew ?_ | refine blk_alloc ?_ _)); exact BK425.out)) : gb425 ≠ gb443)); have n7_ := Aside0.mk ((by rw [hg]; exact Nat.ne_of_gt (blk_lt (g := gb425) (o := .cells #[.string a0_0, .int .i64 a0_1] 23 (0, 0)) (by (with_reducible repeat (first | refine blk_drewN ?_ _ | refine blk_drew ?_ | refine blk_alloc ?_ _)); exact BK425.out)) : gb443 ≠ gb425)); have n8_ := Aside0.mk ((by rw [hg]; exact Nat.ne_of_lt (blk_lt (g := gb426) (o := .cells #[.bool a1_0, .bool a1_1] 81 (0, 0)) (by (with_reducible repeat (first | refine blk_drewN ?_ _ | refine blk_drew ?_ | refine blk_alloc ?_ _)); exact BK426.out)) : gb426 ≠ gb443)); have n9_ := Aside0.mk ((by rw [hg]; exact Nat.ne_of_gt (blk_lt (g := gb426) (o := .cells #[.bool a1_0, .bool a1_1] 81 (0, 0)) (by (with_reducible repeat (first | refine blk_drewN ?_ _ | refine blk_drew ?_ | refine blk_alloc ?_ _)); exact BK426.out)) : gb443 ≠ gb426)); clear BK425; clear BK426; clear HB; have BK425 := n0_; have BK426 := n1_; have HB := n2_; have BK443 := n3_; have GW443 := n4_; have GE443 := n5_; have NB425_443 := n6_; have NB443_425 := n7_; have NB426_443 := n8_; have NB443_426 := n9_; clear n0_ n1_ n2_ n3_ n4_ n5_ n6_ n7_ n8_ n9_; clear hb hbox hg; have hnb89 := NB443_425.out; have hnc89 := NB425_443.out; have hnb90 := NB443_426.out; have hnc90 := NB426_443.out; have hcz91_0 : w88.cell? ⟨gb443, 0, none⟩ = some (.string (⟨#[]⟩ : ByteArray)) := (blk_cell BK443.out 0).trans rfl; have hcz91_1 : w88.cell? ⟨gb443, 1, none⟩ = some (.int .i64 0) := (blk_cell BK443.out 1).trans rfl; have hfz91_0 := blk_frozen BK443.out 0; have hfz91_1 := blk_frozen BK443.out 1) | ((with_reducible refine gate_callee (f := 55) rfl ?_); refine goesL_ (some 98) rfl rfl Tryd.func55 (by kernel_rfl) rfl #[.string a2] rfl (by (try simp only [List.map_toArray, List.map_cons, List.map_nil]); first | done | rfl | (simp only [List.length_drop, List.length_take]; rfl)) ?_; (with_reducible refine (squelchref04_Get.calls kj17 a2 t444 t445 t446 t447 false _ A50.out).mono ?_); rintro e w92 ⟨rfl, hb⟩; refine ⟨_, rfl, ?_⟩; have n0_ := Aside0.mk (blk_below (g := gb425) (o := .cells #[.string a0_0, .int .i64 a0_1] 23 (0, 0)) (by (with_reducible repeat (first | refine blk_drewN ?_ _ | refine blk_drew ?_ | refine blk_alloc ?_ _)); refine blk_far ?_ NB425_443.out _; (with_reducible repeat (first | refine blk_drewN ?_ _ | refine blk_drew ?_ | refine blk_alloc ?_ _)); refine blk_far ?_ NB425_443.out _; (with_reducible repeat (first | refine blk_drewN ?_ _ | refine blk_drew ?_ | refine blk_alloc ?_ _)); exact BK425.out) hb); have n1_ := Aside0.mk (blk_below (g := gb426) (o := .cells #[.bool a1_0, .bool a1_1] 81 (0, 0)) (by (with_reducible repeat (first | refine blk_drewN ?_ _ | refine blk_drew ?_ | refine blk_alloc ?_ _)); refine blk_far ?_ NB426_443.out _; (with_reducible repeat (first | refine blk_drewN ?_ _ | refine blk_drew ?_ | refine blk_alloc ?_ _)); refine blk_far ?_ NB426_443.out _; (with_reducible repeat (first | refine blk_drewN ?_ _ | refine blk_drew ?_ | refine blk_alloc ?_ _)); exact BK426.out) hb); have n2_ := Aside0.mk (blk_below (g := gb443) (o := .cells #[.string t438, .int .i64 t439] 23 (0, 0)) (by (with_reducible repeat (first | refine blk_drewN ?_ _ | refine blk_drew ?_ | refine blk_alloc ?_ _)); refine blk_put (cs := #[.string t438, .int .i64 0]) ?_ 1 _ rfl; (with_reducible repeat (first | refine blk_drewN ?_ _ | refine blk_drew ?_ | refine blk_alloc ?_ _)); refine blk_put (cs := #[.string (⟨#[]⟩ : ByteArray), .int .i64 0]) ?_ 0 _ rfl; (with_reducible repeat (first | refine blk_drewN ?_ _ | refine blk_drew ?_ | refine blk_alloc ?_ _)); exact BK443.out) hb); have n3_ := Aside0.mk (below_step (by repeat (first | (with_reducible first | exact HB.out | apply below_alloc | apply pw_below_drewN | apply below_drew1 | refine below_set ?_ GE425.out | refine below_set ?_ GE426.out | refine below_set ?_ GE443.out) | exact HB.out)) hb); clear BK425; clear BK426; clear BK443; clear HB; have BK425 := n0_; have BK426 := n1_; have BK443 := n2_; have HB := n3_; clear n0_ n1_ n2_ n3_; (try clear hb); (try clear hb2); (try clear hk); (try clear hi)) | ((with_reducible refine gate_dst (N := 17) rfl ?_); (try (refine gate_guard (by rfl) ?_; dsimp only)); refine box_event ?hg (N := 17) ?hd (cs := #[.string (⟨#[]⟩ : ByteArray), .int .i64 0]) (t := 23) ?hr ?_; (case hd => rfl); (case hg => rfl); (case hr => first | (go_simp; done) | (go_simp; rfl)); intro gb449 hg w93 hbox hb; have n0_ := Aside0.mk (blk_below (g := gb425) (o := .cells #[.string a0_0, .int .i64 a0_1] 23 (0, 0)) (by (with_reducible repeat (first | refine blk_drewN ?_ _ | refine blk_drew ?_ | refine blk_alloc ?_ _)); exact BK425.out) hb); have n1_ := Aside0.mk (blk_below (g := gb426) (o := .cells #[.bool a1_0, .bool a1_1] 81 (0, 0)) (by (with_reducible repeat (first | refine blk_drewN ?_ _ | refine blk_drew ?_ | refine blk_alloc ?_ _)); exact BK426.out) hb); have n2_ := Aside0.mk (blk_below (g := gb443) (o := .cells #[.string t438, .int .i64 t439] 23 (0, 0)) (by (with_reducible repeat (first | refine blk_drewN ?_ _ | refine blk_drew ?_ | refine blk_alloc ?_ _)); exact BK443.out) hb); have n3_ := Aside0.mk (below_step (by repeat (first | (with_reducible first | exact HB.out | apply below_alloc | apply pw_below_drewN | apply below_drew1 | refine below_set ?_ GE425.out | refine below_set ?_ GE426.out | refine below_set ?_ GE443.out) | exact HB.out)) hb); have n4_ := Aside0.mk (hbox); have n5_ := Aside0.mk ((by rw [hg]; exact (below_size (by repeat (first | (with_reducible first | exact HB.out | apply below_alloc | apply pw_below_drewN | apply below_drew1 | refine below_set ?_ GE425.out | refine below_set ?_ GE426.out | refine below_set ?_ GE443.out) | exact HB.out))) : w.heap.size ≤ gb449)); have n6_ := Aside0.mk ((by rw [hg]; exact (below_size (by repeat (first | (with_reducible first | exact HB.out | apply below_alloc | apply pw_below_drewN | apply below_drew1 | refine below_set ?_ GE425.out | refine below_set ?_ GE426.out | refine below_set ?_ GE443.out) | exact HB.out))) : w.heap.size ≤ gb449)); have n7_ := Aside0.mk ((by rw [hg]; exact Nat.ne_of_lt (blk_lt (g := gb425) (o := .cells #[.string a0_0, .int .i64 a0_1] 23 (0, 0)) (by (with_reducible repeat (first | refine blk_drewN ?_ _ | refine blk_drew ?_ | refine blk_alloc ?_ _)); exact BK425.out)) : gb425 ≠ gb449)); have n8_ := Aside0.mk ((by rw [hg]; exact Nat.ne_of_gt (blk_lt (g := gb425) (o := .cells #[.string a0_0, .int .i64 a0_1] 23 (0, 0)) (by (with_reducible repeat (first | refine blk_drewN ?_ _ | refine blk_drew ?_ | refine blk_alloc ?_ _)); exact BK425.out)) : gb449 ≠ gb425)); have n9_ := Aside0.mk ((by rw [hg]; exact Nat.ne_of_lt (blk_lt (g := gb426) (o := .cells #[.bool a1_0, .bool a1_1] 81 (0, 0)) (by (with_reducible repeat (first | refine blk_drewN ?_ _ | refine blk_drew ?_ | refine blk_alloc ?_ _)); exact BK426.out)) : gb426 ≠ gb449)); have n10_ := Aside0.mk ((by rw [hg]; exact Nat.ne_of_gt (blk_lt (g := gb426) (o := .cells #[.bool a1_0, .bool a1_1] 81 (0, 0)) (by (with_reducible repeat (first | refine blk_drewN ?_ _ | refine blk_drew ?_ | refine blk_alloc ?_ _)); exact BK426.out)) : gb449 ≠ gb426)); have n11_ := Aside0.mk ((by rw [hg]; exact Nat.ne_of_lt (blk_lt (g := gb443) (o := .cells #[.string t438, .int .i64 t439] 23 (0, 0)) (by (with_reducible repeat (first | refine blk_drewN ?_ _ | refine blk_drew ?_ | refine blk_alloc ?_ _)); exact BK443.out)) : gb443 ≠ gb449)); have n12_ := Aside0.mk ((by rw [hg]; exact Nat.ne_of_gt (blk_lt (g := gb443) (o := .cells #[.string t438, .int .i64 t439] 23 (0, 0)) (by (with_reducible repeat (first | refine blk_drewN ?_ _ | refine blk_drew ?_ | refine blk_alloc ?_ _)); exact BK443.out)) : gb449 ≠ gb443)); clear BK425; clear BK426; clear BK443; clear HB; have BK425 := n0_; have BK426 := n1_; have BK443 := n2_; have HB := n3_; have BK449 := n4_; have GW449 := n5_; have GE449 := n6_; have NB425_449 := n7_; have NB449_425 := n8_; have NB426_449 := n9_; have NB449_426 := n10_; have NB443_449 := n11_; have NB449_443 := n12_; clear n0_ n1_ n2_ n3_ n4_ n5_ n6_ n7_ n8_ n9_ n10_ n11_ n12_; clear hb hbox hg; have hnb94 := NB449_425.out; have hnc94 := NB425_449.out; have hnb95 := NB449_426.out; have hnc95 := NB426_449.out; have hnb96 := NB449_443.out; have hnc96 := NB443_449.out; have hcz97_0 : w93.cell? ⟨gb449, 0, none⟩ = some (.string (⟨#[]⟩ : ByteArray)) := (blk_cell BK449.out 0).trans rfl; have hcz97_1 : w93.cell? ⟨gb449, 1, none⟩ = some (.int .i64 0) := (blk_cell BK449.out 1).trans rfl; have hfz97_0 := blk_frozen BK449.out 0; have hfz97_1 := blk_frozen BK449.out 1; have hcz98_0 : w93.cell? ⟨gb443, 0, none⟩ = some (.string t438) := (blk_cell BK443.out 0).trans rfl; have hcz98_1 : w93.cell? ⟨gb443, 1, none⟩ = some (.int .i64 t439) := (blk_cell BK443.out 1).trans rfl; have hfz98_0 := blk_frozen BK443.out 0; have hfz98_1 := blk_frozen BK443.out 1))
                          go_ret
                          exact ⟨by first | rfl | (simp [errW_none, errW_some] <;> rfl) | (simp [*, errW_none, errW_some] <;> rfl), by repeat (first | (with_reducible first | exact HB.out | apply below_alloc | apply pw_below_drewN | apply below_drew1 | refine below_set ?_ GE425.out | refine below_set ?_ GE426.out | refine below_set ?_ GE443.out | refine below_set ?_ GE449.out) | exact HB.out)⟩
                        · rw [if_neg c86] at H
                          have c86b0 : (t441 == t447) = false := by simpa using c86
                          (try (have c86b1 : decide (t441 = t447) = false := by simpa using c86))
                          (try (have c86b2 : (t441 == t447) = false := by simpa using c86))
                          (try (have c86b3 : ¬ (t441 = t447) := by simpa using c86))
                          clear c86
                          exact absurd ((Option.some.inj H).trans HT_.out) (by decide)
                      · rw [if_neg c85] at H
                        have c85b0 : (t440 == t446) = false := by simpa using c85
                        (try (have c85b1 : decide (t440 = t446) = false := by simpa using c85))
                        (try (have c85b2 : (t440 == t446) = false := by simpa using c85))
                        (try (have c85b3 : ¬ (t440 = t446) := by simpa using c85))
                        clear c85
                        exact absurd ((Option.some.inj H).trans HT_.out) (by decide)
                    · rw [if_neg c84] at H
                      have c84b0 : (t438.toList == t444.toList && (t439 == t445)) = false := by simpa using c84
                      (try (have c84b1 : decide (t438.toList = t444.toList && (t439 == t445)) = false := by simpa using c84))
                      (try (have c84b2 : (t438.toList == t444.toList && (t439 == t445)) = false := by simpa using c84))
                      (try (have c84b3 : ¬ (t438.toList = t444.toList && (t439 == t445)) := by simpa using c84))
                      clear c84
                      exact absurd ((Option.some.inj H).trans HT_.out) (by decide)
                  · rw [if_neg c83] at H
                    have c83b0 : decide (7 < (a2.size : Int)) = false := decide_eq_false c83
                    have c83b1 : decide (7 < a2.size) = false := decide_eq_false (by omega)
                    clear c83
                    by_cases c99 : (t438.toList == t444.toList && (t439 == t445)) = true
                    · rw [if_pos c99] at H
                      have c99b0 : (t438.toList == t444.toList && (t439 == t445)) = true := c99
                      (try (have c99b1 : decide (t438.toList = t444.toList && (t439 == t445)) = true := by simpa using c99))
                      (try (have c99b2 : (t438.toList == t444.toList && (t439 == t445)) = true := by simpa using c99))
                      clear c99
                      by_cases c100 : (t440 == t446) = true
                      · rw [if_pos c100] at H
                        have c100b0 : (t440 == t446) = true := c100
                        (try (have c100b1 : decide (t440 = t446) = true := by simpa using c100))
                        (try (have c100b2 : (t440 == t446) = true := by simpa using c100))
                        clear c100
                        by_cases c101 : (t441 == t447) = true
                        · rw [if_pos c101] at H
                          have c101b0 : (t441 == t447) = true := c101
                          (try (have c101b1 : decide (t441 = t447) = true := by simpa using c101))
                          (try (have c101b2 : (t441 == t447) = true := by simpa using c101))
                          clear c101
                          obtain rfl := Option.some.inj H
                          go_wp2_with (first | ((with_reducible refine gate_callee (f := 54) rfl ?_); refine goesL_ (some 91) rfl rfl Tryd.func54 (by kernel_rfl) rfl #[.string a2] rfl (by (try simp only [List.map_toArray, List.map_cons, List.map_nil]); first | done | rfl | (simp only [List.length_drop, List.length_take]; rfl)) ?_; (with_reducible refine (call_Get.calls a2 t438 t439 t440 t441 t442 _ A49.out).mono ?_); rintro e w102 ⟨rfl, hb⟩; refine ⟨_, rfl, ?_⟩; have n0_ := Aside0.mk (blk_below (g := gb425) (o := .cells #[.string a0_0, .int .i64 a0_1] 23 (0, 0)) (by (with_reducible repeat (first | refine blk_drewN ?_ _ | refine blk_drew ?_ | refine blk_alloc ?_ _)); exact BK425.out) hb); have n1_ := Aside0.mk (blk_below (g := gb426) (o := .cells #[.bool a1_0, .bool a1_1] 81 (0, 0)) (by (with_reducible repeat (first | refine blk_drewN ?_ _ | refine blk_drew ?_ | refine blk_alloc ?_ _)); exact BK426.out) hb); have n2_ := Aside0.mk (below_step (by repeat (first | (with_reducible first | exact HB.out | apply below_alloc | apply pw_below_drewN | apply below_drew1 | refine below_set ?_ GE425.out | refine below_set ?_ GE426.out) | exact HB.out)) hb); clear BK425; clear BK426; clear HB; have BK425 := n0_; have BK426 := n1_; have HB := n2_; clear n0_ n1_ n2_; (try clear hb); (try clear hb2); (try clear hk); (try clear hi)) | ((with_reducible refine gate_dst (N := 13) rfl ?_); (try (refine gate_guard (by rfl) ?_; dsimp only)); refine box_event ?hg (N := 13) ?hd (cs := #[.string (⟨#[]⟩ : ByteArray), .int .i64 0]) (t := 23) ?hr ?_; (case hd => rfl); (case hg => rfl); (case hr => first | (go_simp; done) | (go_simp; rfl)); intro gb443 hg w103 hbox hb; have n0_ := Aside0.mk (blk_below (g := gb425) (o := .cells #[.string a0_0, .int .i64 a0_1] 23 (0, 0)) (by (with_reducible repeat (first | refine blk_drewN ?_ _ | refine blk_drew ?_ | refine blk_alloc ?_ _)); exact BK425.out) hb); have n1_ := Aside0.mk (blk_below (g := gb426) (o := .cells #[.bool a1_0, .bool a1_1] 81 (0, 0)) (by (with_reducible repeat (first | refine blk_drewN ?_ _ | refine blk_drew ?_ | refine blk_alloc ?_ _)); exact BK426.out) hb); have n2_ := Aside0.mk (below_step (by repeat (first | (with_reducible first | exact HB.out | apply below_alloc | apply pw_below_drewN | apply below_drew1 | refine below_set ?_ GE425.out | refine below_set ?_ GE426.out) | exact HB.out)) hb); have n3_ := Aside0.mk (hbox); have n4_ := Aside0.mk ((by rw [hg]; exact (below_size (by repeat (first | (with_reducible first | exact HB.out | apply below_alloc | apply pw_below_drewN | apply below_drew1 | refine below_set ?_ GE425.out | refine below_set ?_ GE426.out) | exact HB.out))) : w.heap.size ≤ gb443)); have n5_ := Aside0.mk ((by rw [hg]; exact (below_size (by repeat (first | (with_reducible first | exact HB.out | apply below_alloc | apply pw_below_drewN | apply below_drew1 | refine below_set ?_ GE425.out | refine below_set ?_ GE426.out) | exact HB.out))) : w.heap.size ≤ gb443)); have n6_ := Aside0.mk ((by rw [hg]; exact Nat.ne_of_lt (blk_lt (g := gb425) (o := .cells #[.string a0_0, .int .i64 a0_1] 23 (0, 0)) (by (with_reducible repeat (first | refine blk_drewN ?_ _ | refine blk_drew ?_ | refine blk_alloc ?_ _)); exact BK425.out)) : gb425 ≠ gb443)); have n7_ := Aside0.mk ((by rw [hg]; exact Nat.ne_of_gt (blk_lt (g := gb425) (o := .cells #[.string a0_0, .int .i64 a0_1] 23 (0, 0)) (by (with_reducible repeat (first | refine blk_drewN ?_ _ | refine blk_drew ?_ | refine blk_alloc ?_ _)); exact BK425.out)) : gb443 ≠ gb425)); have n8_ := Aside0.mk ((by rw [hg]; exact Nat.ne_of_lt (blk_lt (g := gb426) (o := .cells #[.bool a1_0, .bool a1_1] 81 (0, 0)) (by (with_reducible repeat (first | refine blk_drewN ?_ _ | refine blk_drew ?_ | refine blk_alloc ?_ _)); exact BK426.out)) : gb426 ≠ gb443)); have n9_ := Aside0.mk ((by rw [hg]; exact Nat.ne_of_gt (blk_lt (g := gb426) (o := .cells #[.bool a1_0, .bool a1_1] 81 (0, 0)) (by (with_reducible repeat (first | refine blk_drewN ?_ _ | refine blk_drew ?_ | refine blk_alloc ?_ _)); exact BK426.out)) : gb443 ≠ gb426)); clear BK425; clear BK426; clear HB; have BK425 := n0_; have BK426 := n1_; have HB := n2_; have BK443 := n3_; have GW443 := n4_; have GE443 := n5_; have NB425_443 := n6_; have NB443_425 := n7_; have NB426_443 := n8_; have NB443_426 := n9_; clear n0_ n1_ n2_ n3_ n4_ n5_ n6_ n7_ n8_ n9_; clear hb hbox hg; have hnb104 := NB443_425.out; have hnc104 := NB425_443.out; have hnb105 := NB443_426.out; have hnc105 := NB426_443.out; have hcz106_0 : w103.cell? ⟨gb443, 0, none⟩ = some (.string (⟨#[]⟩ : ByteArray)) := (blk_cell BK443.out 0).trans rfl; have hcz106_1 : w103.cell? ⟨gb443, 1, none⟩ = some (.int .i64 0) := (blk_cell BK443.out 1).trans rfl; have hfz106_0 := blk_frozen BK443.out 0; have hfz106_1 := blk_frozen BK443.out 1) | ((with_reducible refine gate_callee (f := 55) rfl ?_); refine goesL_ (some 98) rfl rfl Tryd.func55 (by kernel_rfl) rfl #[.string a2] rfl (by (try simp only [List.map_toArray, List.map_cons, List.map_nil]); first | done | rfl | (simp only [List.length_drop, List.length_take]; rfl)) ?_; (with_reducible refine (squelchref04_Get.calls kj17 a2 t444 t445 t446 t447 false _ A50.out).mono ?_); rintro e w107 ⟨rfl, hb⟩; refine ⟨_, rfl, ?_⟩; have n0_ := Aside0.mk (blk_below (g := gb425) (o := .cells #[.string a0_0, .int .i64 a0_1] 23 (0, 0)) (by (with_reducible repeat (first | refine blk_drewN ?_ _ | refine blk_drew ?_ | refine blk_alloc ?_ _)); refine blk_far ?_ NB425_443.out _; (with_reducible repeat (first | refine blk_drewN ?_ _ | refine blk_drew ?_ | refine blk_alloc ?_ _)); refine blk_far ?_ NB425_443.out _; (with_reducible repeat (first | refine blk_drewN ?_ _ | refine blk_drew ?_ | refine blk_alloc ?_ _)); exact BK425.out) hb); have n1_ := Aside0.mk (blk_below (g := gb426) (o := .cells #[.bool a1_0, .bool a1_1] 81 (0, 0)) (by (with_reducible repeat (first | refine blk_drewN ?_ _ | refine blk_drew ?_ | refine blk_alloc ?_ _)); refine blk_far ?_ NB426_443.out _; (with_reducible repeat (first | refine blk_drewN ?_ _ | refine blk_drew ?_ | refine blk_alloc ?_ _)); refine blk_far ?_ NB426_443.out _; (with_reducible repeat (first | refine blk_drewN ?_ _ | refine blk_drew ?_ | refine blk_alloc ?_ _)); exact BK426.out) hb); have n2_ := Aside0.mk (blk_below (g := gb443) (o := .cells #[.string t438, .int .i64 t439] 23 (0, 0)) (by (with_reducible repeat (first | refine blk_drewN ?_ _ | refine blk_drew ?_ | refine blk_alloc ?_ _)); refine blk_put (cs := #[.string t438, .int .i64 0]) ?_ 1 _ rfl; (with_reducible repeat (first | refine blk_drewN ?_ _ | refine blk_drew ?_ | refine blk_alloc ?_ _)); refine blk_put (cs := #[.string (⟨#[]⟩ : ByteArray), .int .i64 0]) ?_ 0 _ rfl; (with_reducible repeat (first | refine blk_drewN ?_ _ | refine blk_drew ?_ | refine blk_alloc ?_ _)); exact BK443.out) hb); have n3_ := Aside0.mk (below_step (by repeat (first | (with_reducible first | exact HB.out | apply below_alloc | apply pw_below_drewN | apply below_drew1 | refine below_set ?_ GE425.out | refine below_set ?_ GE426.out | refine below_set ?_ GE443.out) | exact HB.out)) hb); clear BK425; clear BK426; clear BK443; clear HB; have BK425 := n0_; have BK426 := n1_; have BK443 := n2_; have HB := n3_; clear n0_ n1_ n2_ n3_; (try clear hb); (try clear hb2); (try clear hk); (try clear hi)) | ((with_reducible refine gate_dst (N := 17) rfl ?_); (try (refine gate_guard (by rfl) ?_; dsimp only)); refine box_event ?hg (N := 17) ?hd (cs := #[.string (⟨#[]⟩ : ByteArray), .int .i64 0]) (t := 23) ?hr ?_; (case hd => rfl); (case hg => rfl); (case hr => first | (go_simp; done) | (go_simp; rfl)); intro gb449 hg w108 hbox hb; have n0_ := Aside0.mk (blk_below (g := gb425) (o := .cells #[.string a0_0, .int .i64 a0_1] 23 (0, 0)) (by (with_reducible repeat (first | refine blk_drewN ?_ _ | refine blk_drew ?_ | refine blk_alloc ?_ _)); exact BK425.out) hb); have n1_ := Aside0.mk (blk_below (g := gb426) (o := .cells #[.bool a1_0, .bool a1_1] 81 (0, 0)) (by (with_reducible repeat (first | refine blk_drewN ?_ _ | refine blk_drew ?_ | refine blk_alloc ?_ _)); exact BK426.out) hb); have n2_ := Aside0.mk (blk_below (g := gb443) (o := .cells #[.string t438, .int .i64 t439] 23 (0, 0)) (by (with_reducible repeat (first | refine blk_drewN ?_ _ | refine blk_drew ?_ | refine blk_alloc ?_ _)); exact BK443.out) hb); have n3_ := Aside0.mk (below_step (by repeat (first | (with_reducible first | exact HB.out | apply below_alloc | apply pw_below_drewN | apply below_drew1 | refine below_set ?_ GE425.out | refine below_set ?_ GE426.out | refine below_set ?_ GE443.out) | exact HB.out)) hb); have n4_ := Aside0.mk (hbox); have n5_ := Aside0.mk ((by rw [hg]; exact (below_size (by repeat (first | (with_reducible first | exact HB.out | apply below_alloc | apply pw_below_drewN | apply below_drew1 | refine below_set ?_ GE425.out | refine below_set ?_ GE426.out | refine below_set ?_ GE443.out) | exact HB.out))) : w.heap.size ≤ gb449)); have n6_ := Aside0.mk ((by rw [hg]; exact (below_size (by repeat (first | (with_reducible first | exact HB.out | apply below_alloc | apply pw_below_drewN | apply below_drew1 | refine below_set ?_ GE425.out | refine below_set ?_ GE426.out | refine below_set ?_ GE443.out) | exact HB.out))) : w.heap.size ≤ gb449)); have n7_ := Aside0.mk ((by rw [hg]; exact Nat.ne_of_lt (blk_lt (g := gb425) (o := .cells #[.string a0_0, .int .i64 a0_1] 23 (0, 0)) (by (with_reducible repeat (first | refine blk_drewN ?_ _ | refine blk_drew ?_ | refine blk_alloc ?_ _)); exact BK425.out)) : gb425 ≠ gb449)); have n8_ := Aside0.mk ((by rw [hg]; exact Nat.ne_of_gt (blk_lt (g := gb425) (o := .cells #[.string a0_0, .int .i64 a0_1] 23 (0, 0)) (by (with_reducible repeat (first | refine blk_drewN ?_ _ | refine blk_drew ?_ | refine blk_alloc ?_ _)); exact BK425.out)) : gb449 ≠ gb425)); have n9_ := Aside0.mk ((by rw [hg]; exact Nat.ne_of_lt (blk_lt (g := gb426) (o := .cells #[.bool a1_0, .bool a1_1] 81 (0, 0)) (by (with_reducible repeat (first | refine blk_drewN ?_ _ | refine blk_drew ?_ | refine blk_alloc ?_ _)); exact BK426.out)) : gb426 ≠ gb449)); have n10_ := Aside0.mk ((by rw [hg]; exact Nat.ne_of_gt (blk_lt (g := gb426) (o := .cells #[.bool a1_0, .bool a1_1] 81 (0, 0)) (by (with_reducible repeat (first | refine blk_drewN ?_ _ | refine blk_drew ?_ | refine blk_alloc ?_ _)); exact BK426.out)) : gb449 ≠ gb426)); have n11_ := Aside0.mk ((by rw [hg]; exact Nat.ne_of_lt (blk_lt (g := gb443) (o := .cells #[.string t438, .int .i64 t439] 23 (0, 0)) (by (with_reducible repeat (first | refine blk_drewN ?_ _ | refine blk_drew ?_ | refine blk_alloc ?_ _)); exact BK443.out)) : gb443 ≠ gb449)); have n12_ := Aside0.mk ((by rw [hg]; exact Nat.ne_of_gt (blk_lt (g := gb443) (o := .cells #[.string t438, .int .i64 t439] 23 (0, 0)) (by (with_reducible repeat (first | refine blk_drewN ?_ _ | refine blk_drew ?_ | refine blk_alloc ?_ _)); exact BK443.out)) : gb449 ≠ gb443)); clear BK425; clear BK426; clear BK443; clear HB; have BK425 := n0_; have BK426 := n1_; have BK443 := n2_; have HB := n3_; have BK449 := n4_; have GW449 := n5_; have GE449 := n6_; have NB425_449 := n7_; have NB449_425 := n8_; have NB426_449 := n9_; have NB449_426 := n10_; have NB443_449 := n11_; have NB449_443 := n12_; clear n0_ n1_ n2_ n3_ n4_ n5_ n6_ n7_ n8_ n9_ n10_ n11_ n12_; clear hb hbox hg; have hnb109 := NB449_425.out; have hnc109 := NB425_449.out; have hnb110 := NB449_426.out; have hnc110 := NB426_449.out; have hnb111 := NB449_443.out; have hnc111 := NB443_449.out; have hcz112_0 : w108.cell? ⟨gb449, 0, none⟩ = some (.string (⟨#[]⟩ : ByteArray)) := (blk_cell BK449.out 0).trans rfl; have hcz112_1 : w108.cell? ⟨gb449, 1, none⟩ = some (.int .i64 0) := (blk_cell BK449.out 1).trans rfl; have hfz112_0 := blk_frozen BK449.out 0; have hfz112_1 := blk_frozen BK449.out 1; have hcz113_0 : w108.cell? ⟨gb443, 0, none⟩ = some (.string t438) := (blk_cell BK443.out 0).trans rfl; have hcz113_1 : w108.cell? ⟨gb443, 1, none⟩ = some (.int .i64 t439) := (blk_cell BK443.out 1).trans rfl; have hfz113_0 := blk_frozen BK443.out 0; have hfz113_1 := blk_frozen BK443.out 1))
                          go_ret
                          exact ⟨by first | rfl | (simp [errW_none, errW_some] <;> rfl) | (simp [*, errW_none, errW_some] <;> rfl), by repeat (first | (with_reducible first | exact HB.out | apply below_alloc | apply pw_below_drewN | apply below_drew1 | refine below_set ?_ GE425.out | refine below_set ?_ GE426.out | refine below_set ?_ GE443.out | refine below_set ?_ GE449.out) | exact HB.out)⟩
                        · rw [if_neg c101] at H
                          have c101b0 : (t441 == t447) = false := by simpa using c101
                          (try (have c101b1 : decide (t441 = t447) = false := by simpa using c101))
                          (try (have c101b2 : (t441 == t447) = false := by simpa using c101))
                          (try (have c101b3 : ¬ (t441 = t447) := by simpa using c101))
                          clear c101
                          exact absurd ((Option.some.inj H).trans HT_.out) (by decide)
                      · rw [if_neg c100] at H
                        have c100b0 : (t440 == t446) = false := by simpa using c100
                        (try (have c100b1 : decide (t440 = t446) = false := by simpa using c100))
                        (try (have c100b2 : (t440 == t446) = false := by simpa using c100))
                        (try (have c100b3 : ¬ (t440 = t446) := by simpa using c100))
                        clear c100
                        exact absurd ((Option.some.inj H).trans HT_.out) (by decide)
                    · rw [if_neg c99] at H
                      have c99b0 : (t438.toList == t444.toList && (t439 == t445)) = false := by simpa using c99
                      (try (have c99b1 : decide (t438.toList = t444.toList && (t439 == t445)) = false := by simpa using c99))
                      (try (have c99b2 : (t438.toList == t444.toList && (t439 == t445)) = false := by simpa using c99))
                      (try (have c99b3 : ¬ (t438.toList = t444.toList && (t439 == t445)) := by simpa using c99))
                      clear c99
                      exact absurd ((Option.some.inj H).trans HT_.out) (by decide)
  · replace c5 := Bool.eq_false_iff.mpr c5
    subst c5
    have H1 : (some false) = some r := by rw [if_neg (show ¬ (false = true) by decide)] at H; exact H
    clear H
    have H := H1
    clear H1
    exact absurd ((Option.some.inj H).trans HT_.out) (by decide)

end Go.Proofs.YtpmieapgbdbabaaDoor.QAll
