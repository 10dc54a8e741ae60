/- Walks, written by a program of this session (wip/pp): a Go function comes to what the Lean function beside it tells. -/
import Derived.Test.YtpmieapgbdbabaaDoorQAllx0
import Derived.Test.YtpmieapgbdbabaaDoorQAllxF39
import Derived.Test.YtpmieapgbdbabaaDoorQAllxF53
namespace Go.Proofs.YtpmieapgbdbabaaDoor.QAll
open Go.RowKit Go.Proofs.YtpmieapgbdbabaaDoorW.PrintWords Go.Proofs.YtpmieapgbdbabaaDoorW.PrintLast Go.Proofs.YtpmieapgbdbabaaDoorW.PrintMore
attribute [local go_sem] max2_int min2_int max_two min_two max_three min_three max_four min_four   -- for this text's walks alone
set_option linter.unusedVariables false
set_option linter.unusedSimpArgs false

/-! ### squelchref04_Get: function 55 -/
def squelchref04_Get.l0 : Nat → ByteArray → Int → ByteArray → Int → Option (ByteArray × Int × Bool × Bool × Bool)
  | 0, _, _, _, _ => none
  | k + 1, x0, x7, x217000, x217001 => if x7 < 6 then (if 0 ≤ x7 then (if x7 < (x0.size : Int) then (if (bt x0 x7) = 64 then (squelchref04_Get.l0 k x0 (wrap64 (x7 + 1)) x217000 x217001) else ((some (([(Int.tdiv (bt x0 x7) 2) % 256] : List Int) : List Int)).bind fun y217 => (if x217000.size + (strOfNums y217).size ≤ 9223372036854775807 then (squelchref04_Get.l0 k x0 (wrap64 (x7 + 1)) (x217000 ++ (strOfNums y217)) x217001) else (none)))) else (none)) else (none)) else (if 6 < (x0.size : Int) then ((squelchref04_Right.f k x217000 x217001).bind fun t220 => (if t220 = true then ((squelchref04_Put.f k x217000 x217001 (decide ((bt x0 6) ≥ 128)) ((Int.tmod (bt x0 6) 2) == 1)).bind fun t221 => (if t221.toList = x0.toList then (some (x217000, x217001, decide ((bt x0 6) ≥ 128), ((Int.tmod (bt x0 6) 2) == 1), true)) else (some ((⟨#[]⟩ : ByteArray), 0, false, false, false)))) else (some ((⟨#[]⟩ : ByteArray), 0, false, false, false)))) else (none))
def squelchref04_Get.f (k : Nat) (a0 : ByteArray) : Option (ByteArray × Int × Bool × Bool × Bool) := if (a0.size : Int) = 7 then (if 6 < (a0.size : Int) then (squelchref04_Get.l0 k a0 0 (⟨#[]⟩ : ByteArray) (Int.tmod (wrap64 (Int.tdiv (wrap64 (bt a0 6)) 2)) 16)) else (none)) else (some ((⟨#[]⟩ : ByteArray), 0, false, false, false))
theorem squelchref04_Get.mono_l : ∀ k, (∀ y0 y1 y2 y3, LeO (squelchref04_Get.l0 k y0 y1 y2 y3) (squelchref04_Get.l0 (k + 1) y0 y1 y2 y3))
  | 0 => fun _ _ _ _ r h => by simp [squelchref04_Get.l0] at h
  | k + 1 => by
    have ih0 := squelchref04_Get.mono_l k
    · intro y0 y1 y2 y3
      unfold squelchref04_Get.l0
      repeat' first
      | (with_reducible exact ih0 _ _ _ _)
      | (with_reducible exact squelchref04_Put.mono _ _ _ _ _)
      | (with_reducible exact squelchref04_Right.mono _ _ _)
      | (with_reducible exact LeO.refl _)
      | (with_reducible exact LeO.none _)
      | (with_reducible refine LeO.ite ?_ ?_)
      | (with_reducible refine LeO.bind ?_ (fun _ => ?_))
      | exact ih0 _ _ _ _
      | exact squelchref04_Put.mono _ _ _ _ _
      | exact squelchref04_Right.mono _ _ _
      | exact LeO.none _
      | refine LeO.ite ?_ ?_
      | refine LeO.bind ?_ (fun _ => ?_)
theorem squelchref04_Get.mono : ∀ a0 k, LeO (squelchref04_Get.f k a0) (squelchref04_Get.f (k + 1) a0) := by
  intro a0 k
  have ih0 := squelchref04_Get.mono_l k
  unfold squelchref04_Get.f
  repeat' first
      | (with_reducible exact ih0 _ _ _ _)
      | (with_reducible exact squelchref04_Put.mono _ _ _ _ _)
      | (with_reducible exact squelchref04_Right.mono _ _ _)
      | (with_reducible exact LeO.refl _)
      | (with_reducible exact LeO.none _)
      | (with_reducible refine LeO.ite ?_ ?_)
      | (with_reducible refine LeO.bind ?_ (fun _ => ?_))
      | exact ih0 _ _ _ _
      | exact squelchref04_Put.mono _ _ _ _ _
      | exact squelchref04_Right.mono _ _ _
      | exact LeO.none _
      | refine LeO.ite ?_ ?_
      | refine LeO.bind ?_ (fun _ => ?_)
def squelchref04_Get.T8 : Bool × List (List Nat × List Nat) := (true, [([], []), ([0], [0]), ([], []), ([], []), ([2, 3], [2, 3]), ([4], [4]), ([5], [5]), ([6], [6]), ([1, 7], [1, 7]), ([0, 1, 2, 3, 4, 5, 6, 7, 8], []), ([9, 8, 0, 1, 2, 3, 4, 5, 6, 7, 8], [8, 9])])
def squelchref04_Get.B8 : List Nat := [0, 1, 0, 0, 12, 28, 60, 124, 255, 511, 1023]
theorem squelchref04_Get.tab8 : rtab .any (opsOf Tryd.f55 8) = squelchref04_Get.T8 := by kernel_rfl
theorem squelchref04_Get.bits8 : waitsOk squelchref04_Get.T8.2 squelchref04_Get.B8 = true := by kernel_rfl
def squelchref04_Get.T9 : Bool × List (List Nat × List Nat) := (true, [([], []), ([0], [0]), ([1], [1]), ([], []), ([3], [3]), ([4], [4]), ([5], [5]), ([2, 0, 1, 2], [2]), ([6, 7, 0, 1, 2, 3, 4, 5, 6, 7], [6])])
def squelchref04_Get.B9 : List Nat := [0, 1, 3, 0, 8, 24, 56, 7, 255]
theorem squelchref04_Get.tab9 : rtab .any (opsOf Tryd.f55 9) = squelchref04_Get.T9 := by kernel_rfl
theorem squelchref04_Get.bits9 : waitsOk squelchref04_Get.T9.2 squelchref04_Get.B9 = true := by kernel_rfl
set_option maxHeartbeats 8000000 in
set_option maxRecDepth 100000 in
theorem squelchref04_Get.calls (k : Nat) (a0 : ByteArray) (r1 : ByteArray) (r2 : Int) (r3 : Bool) (r4 : Bool) (r5 : Bool) (w : World) (h : squelchref04_Get.f k a0 = some (r1, r2, r3, r4, r5)) :
    Calls Tryd.prog 55 #[.string a0] w fun e w' => e = .returned (.tuple #[.agg #[.string r1, .int .i64 r2], .bool r3, .bool r4, .bool r5]) ∧ Below w.heap.size w w' := by
  have hu23 := Tryd.underlying23
  have HB := Aside0.mk (Below.refl w.heap.size w)
  have H : (if (a0.size : Int) = 7 then (if 6 < (a0.size : Int) then (squelchref04_Get.l0 k a0 0 (⟨#[]⟩ : ByteArray) (Int.tmod (wrap64 (Int.tdiv (wrap64 (bt a0 6)) 2)) 16)) else (none)) else (some ((⟨#[]⟩ : ByteArray), 0, false, false, false))) = some (r1, r2, r3, r4, r5) := h
  clear h
  by_cases c2 : (a0.size : Int) = 7
  · rw [if_pos c2] at H
    have c2b0 : ((a0.size : Int) == 7) = true := beq_iff_eq.mpr c2
    have c2b1 : ((a0.size : Int) != 7) = false := bne_eq_false_iff_eq.mpr c2
    clear c2
    by_cases c3 : 6 < (a0.size : Int)
    · rw [if_pos c3] at H
      have c3b0 : decide (6 < (a0.size : Int)) = true := decide_eq_true c3
      have c3b1 : decide (6 < a0.size) = true := decide_eq_true (by omega)
      clear c3
      have H' := Aside0.mk H
      clear H
      go_enter Tryd.func55, Tryd.ntmps55
      go_wp2_with (first | ((with_reducible refine gate_dst (N := 2) rfl ?_); refine box_event ?hg (N := 2) ?hd (cs := #[.string (⟨#[]⟩ : ByteArray), .int .i64 0]) (t := 23) ?hr ?_; (case hd => rfl); (case hg => rfl); (case hr => first | (go_simp; done) | (go_simp; rfl)); intro gb215 hg w5 hbox hb; have n0_ := Aside0.mk (below_step (by repeat (first | (with_reducible first | exact HB.out | apply below_alloc | apply pw_below_drewN | apply below_drew1) | exact HB.out)) hb); have n1_ := Aside0.mk (hbox); have n2_ := Aside0.mk ((by rw [hg]; exact (below_size (by repeat (first | (with_reducible first | exact HB.out | apply below_alloc | apply pw_below_drewN | apply below_drew1) | exact HB.out))) : w.heap.size ≤ gb215)); have n3_ := Aside0.mk ((by rw [hg]; exact (below_size (by repeat (first | (with_reducible first | exact HB.out | apply below_alloc | apply pw_below_drewN | apply below_drew1) | exact HB.out))) : w.heap.size ≤ gb215)); clear HB; have HB := n0_; have BK215 := n1_; have GW215 := n2_; have GE215 := n3_; clear n0_ n1_ n2_ n3_; clear hb hbox hg; have p4 : 0 ≤ (6 : Int) := (by omega); have q4 : 6 < a0.size := (by have : (6 : Int) < (a0.size : Int) := of_decide_eq_true (by first | (with_reducible assumption) | assumption); omega); have hx4 : ∀ h : 6 < a0.size, ((a0[6]'h).toNat : Int) = bt a0 6 := bt_at a0 6; clear p4; have qi4 : (6 < (a0.size : Int)) = True := eq_true (of_decide_eq_true (by first | (with_reducible assumption) | assumption)); replace q4 := eq_true q4) | ((with_reducible refine gate_dst (N := 6) rfl ?_); refine box_event ?hg (N := 6) ?hd (cs := #[.string (⟨#[]⟩ : ByteArray), .int .i64 0]) (t := 23) ?hr ?_; (case hd => rfl); (case hg => rfl); (case hr => first | (go_simp; done) | (go_simp; rfl)); intro gb216 hg w6 hbox hb; have n0_ := Aside0.mk (blk_below (g := gb215) (o := .cells #[.string (⟨#[]⟩ : ByteArray), .int .i64 0] 23 (0, 0)) (by (with_reducible repeat (first | refine blk_drewN ?_ _ | refine blk_drew ?_ | refine blk_alloc ?_ _)); exact BK215.out) hb); have n1_ := Aside0.mk (below_step (by repeat (first | (with_reducible first | exact HB.out | apply below_alloc | apply pw_below_drewN | apply below_drew1 | refine below_set ?_ GE215.out) | exact HB.out)) hb); have n2_ := Aside0.mk (hbox); have n3_ := Aside0.mk ((by rw [hg]; exact (below_size (by repeat (first | (with_reducible first | exact HB.out | apply below_alloc | apply pw_below_drewN | apply below_drew1 | refine below_set ?_ GE215.out) | exact HB.out))) : w.heap.size ≤ gb216)); have n4_ := Aside0.mk ((by rw [hg]; exact (below_size (by repeat (first | (with_reducible first | exact HB.out | apply below_alloc | apply pw_below_drewN | apply below_drew1 | refine below_set ?_ GE215.out) | exact HB.out))) : w.heap.size ≤ gb216)); have n5_ := Aside0.mk ((by rw [hg]; exact Nat.ne_of_lt (blk_lt (g := gb215) (o := .cells #[.string (⟨#[]⟩ : ByteArray), .int .i64 0] 23 (0, 0)) (by (with_reducible repeat (first | refine blk_drewN ?_ _ | refine blk_drew ?_ | refine blk_alloc ?_ _)); exact BK215.out)) : gb215 ≠ gb216)); have n6_ := Aside0.mk ((by rw [hg]; exact Nat.ne_of_gt (blk_lt (g := gb215) (o := .cells #[.string (⟨#[]⟩ : ByteArray), .int .i64 0] 23 (0, 0)) (by (with_reducible repeat (first | refine blk_drewN ?_ _ | refine blk_drew ?_ | refine blk_alloc ?_ _)); exact BK215.out)) : gb216 ≠ gb215)); clear BK215; clear HB; have BK215 := n0_; have HB := n1_; have BK216 := n2_; have GW216 := n3_; have GE216 := n4_; have NB215_216 := n5_; have NB216_215 := n6_; clear n0_ n1_ n2_ n3_ n4_ n5_ n6_; clear hb hbox hg; have hnb7 := NB216_215.out; have hnc7 := NB215_216.out; have hcz8_0 : w6.cell? ⟨gb216, 0, none⟩ = some (.string (⟨#[]⟩ : ByteArray)) := (blk_cell BK216.out 0).trans rfl; have hcz8_1 : w6.cell? ⟨gb216, 1, none⟩ = some (.int .i64 0) := (blk_cell BK216.out 1).trans rfl; have hfz8_0 := blk_frozen BK216.out 0; have hfz8_1 := blk_frozen BK216.out 1))
      go_loopg [7] k (fun kq v7 w' => ∃ (x7_1 : Int) (x217000_1 : ByteArray), v7 = .int .i64 x7_1 ∧ Aside0 (squelchref04_Get.l0 kq a0 x7_1 x217000_1 (Int.tmod (wrap64 (Int.tdiv (wrap64 (bt a0 6)) 2)) 16) = some (r1, r2, r3, r4, r5)) ∧ Aside0 (kq ≤ k) ∧ Aside0 (w'.heap[gb215]? = some (.cells #[.string (⟨#[]⟩ : ByteArray), .int .i64 0] 23 (0, 0))) ∧ Aside0 (w'.heap[gb216]? = some (.cells #[.string x217000_1, .int .i64 (Int.tmod (wrap64 (Int.tdiv (wrap64 (bt a0 6)) 2)) 16)] 23 (0, 0))) ∧ Aside0 (Below w.heap.size w w'))
      case atStart => exact ⟨(0), ((⟨#[]⟩ : ByteArray)), (by first | rfl | (simp; done) | (simp [*]; done) | (simp; exact (fun l : List UInt8 => (by cases l <;> rfl : l.isEmpty = !(l != []))) _)), H', ⟨Nat.le_refl _⟩, ⟨by (with_reducible repeat (first | refine blk_drewN ?_ _ | refine blk_drew ?_ | refine blk_alloc ?_ _)); refine blk_far ?_ NB215_216.out _; (with_reducible repeat (first | refine blk_drewN ?_ _ | refine blk_drew ?_ | refine blk_alloc ?_ _)); refine blk_far ?_ NB215_216.out _; (with_reducible repeat (first | refine blk_drewN ?_ _ | refine blk_drew ?_ | refine blk_alloc ?_ _)); exact BK215.out⟩, ⟨by (with_reducible repeat (first | refine blk_drewN ?_ _ | refine blk_drew ?_ | refine blk_alloc ?_ _)); refine blk_put (cs := #[.string (⟨#[]⟩ : ByteArray), .int .i64 0]) ?_ 1 _ rfl; (with_reducible repeat (first | refine blk_drewN ?_ _ | refine blk_drew ?_ | refine blk_alloc ?_ _)); refine blk_put (cs := #[.string (⟨#[]⟩ : ByteArray), .int .i64 0]) ?_ 0 _ rfl; (with_reducible repeat (first | refine blk_drewN ?_ _ | refine blk_drew ?_ | refine blk_alloc ?_ _)); exact BK216.out⟩, ⟨by repeat (first | (with_reducible first | exact HB.out | apply below_alloc | apply pw_below_drewN | apply below_drew1 | refine below_set ?_ GE215.out | refine below_set ?_ GE216.out) | exact HB.out)⟩⟩
      case round =>
        clear H'
        try clear c2
        try clear c2b0
        try clear c2b1
        try clear p2
        try clear c3
        try clear c3b0
        try clear c3b1
        try clear p4
        try clear q4
        try clear hx4
        try clear qi4
        try clear c5
        try clear p6
        try clear c7
        try clear hcz8_0
        try clear hcz8_1
        try clear hfz8_0
        try clear hfz8_1
        try clear p4
        try clear q4
        obtain ⟨x7_1, x217000_1, rfl, HA, HK1, BK215, BK216, HB⟩ := hrel
        cases gk with
        | zero => exact absurd HA.out (by simp [squelchref04_Get.l0])
        | succ k1 =>
          have H := HA.out
          clear HA
          simp only [squelchref04_Get.l0] at H
          by_cases c9 : x7_1 < 6
          · rw [if_pos c9] at H
            have c9b0 : decide (x7_1 < 6) = true := decide_eq_true c9
            clear c9
            by_cases c10 : 0 ≤ x7_1
            · rw [if_pos c10] at H
              have c10b0 : decide (0 ≤ x7_1) = true := decide_eq_true c10
              clear c10
              by_cases c11 : x7_1 < (a0.size : Int)
              · rw [if_pos c11] at H
                have c11b0 : decide (x7_1 < (a0.size : Int)) = true := decide_eq_true c11
                clear c11
                by_cases c13 : (bt a0 x7_1) = 64
                · rw [if_pos c13] at H
                  have c13b0 : ((bt a0 x7_1) == 64) = true := beq_iff_eq.mpr c13
                  have c13b1 : ((bt a0 x7_1) != 64) = false := bne_eq_false_iff_eq.mpr c13
                  clear c13
                  have H' := Aside0.mk H
                  clear H
                  have p12 : 0 ≤ (x7_1 : Int) := of_decide_eq_true (by first | (with_reducible assumption) | assumption)
                  have q12 : x7_1 < (a0.size : Int) := of_decide_eq_true (by first | (with_reducible assumption) | assumption)
                  have hx12 := bt_at a0 x7_1
                  replace p12 := eq_true p12
                  replace q12 := eq_true q12
                  go_wp2
                  go_roundg k1
                  case measure => have := HK1.out; omega
                  case rel => exact ⟨(wrap64 (x7_1 + 1)), (x217000_1), (by first | rfl | (simp; done) | (simp [*]; done) | (simp; exact (fun l : List UInt8 => (by cases l <;> rfl : l.isEmpty = !(l != []))) _)), H', ⟨by have := HK1.out; omega⟩, ⟨by (with_reducible repeat (first | refine blk_drewN ?_ _ | refine blk_drew ?_ | refine blk_alloc ?_ _)); exact BK215.out⟩, ⟨by (with_reducible repeat (first | refine blk_drewN ?_ _ | refine blk_drew ?_ | refine blk_alloc ?_ _)); exact BK216.out⟩, ⟨by repeat (first | (with_reducible first | exact HB.out | apply below_alloc | apply pw_below_drewN | apply below_drew1 | refine below_set ?_ GE215.out | refine below_set ?_ GE216.out) | exact HB.out)⟩⟩
                · rw [if_neg c13] at H
                  have c13b0 : ((bt a0 x7_1) == 64) = false := beq_eq_false_iff_ne.mpr c13
                  have c13b1 : ((bt a0 x7_1) != 64) = true := bne_iff_ne.mpr c13
                  obtain ⟨y217, hy217⟩ : ∃ y_ : List Int, y_ = (([(Int.tdiv (bt a0 x7_1) 2) % 256] : List Int)) := ⟨_, rfl⟩
                  replace H : (if x217000_1.size + (strOfNums y217).size ≤ 9223372036854775807 then (squelchref04_Get.l0 k1 a0 (wrap64 (x7_1 + 1)) (x217000_1 ++ (strOfNums y217)) (Int.tmod (wrap64 (Int.tdiv (wrap64 (bt a0 6)) 2)) 16)) else (none)) = some (r1, r2, r3, r4, r5) := by first | (rw [hy217]; with_reducible exact H) | (have H2_ := (Option.bind_some _ _).symm.trans H; rw [hy217]; with_reducible exact H2_) | (have H2_ := (Option.bind_some _ _).symm.trans H; with_reducible exact H2_) | with_reducible exact H | (rw [hy217]; exact H) | exact H
                  have Ny217 := Aside0.mk hy217
                  clear hy217
                  by_cases c15 : x217000_1.size + (strOfNums y217).size ≤ 9223372036854775807
                  · rw [if_pos c15] at H
                    have c15b0 := eq_true c15
                    have c15b1 : decide (x217000_1.size + (strOfNums y217).size ≤ 9223372036854775807) = true := decide_eq_true c15
                    try have c15b2 : (9223372036854775807 < x217000_1.size + (strOfNums y217).size) = False := eq_false (Nat.not_lt.2 c15)
                    have H' := Aside0.mk H
                    clear H
                    have p12 : 0 ≤ (x7_1 : Int) := of_decide_eq_true (by first | (with_reducible assumption) | assumption)
                    have q12 : x7_1 < (a0.size : Int) := of_decide_eq_true (by first | (with_reducible assumption) | assumption)
                    have hx12 := bt_at a0 x7_1
                    replace p12 := eq_true p12
                    replace q12 := eq_true q12
                    try go_wp2
                    have n0_ := Aside0.mk (blk_drew BK215.out)
                    have n1_ := Aside0.mk (blk_drew BK216.out)
                    have n2_ := Aside0.mk (below_drew1 HB.out)
                    clear BK215
                    clear BK216
                    clear HB
                    have BK215 := n0_
                    have BK216 := n1_
                    have HB := n2_
                    clear n0_ n1_ n2_
                    have p14 : 0 ≤ (x7_1 : Int) := of_decide_eq_true (by first | (with_reducible assumption) | assumption)
                    have q14 : x7_1 < (a0.size : Int) := of_decide_eq_true (by first | (with_reducible assumption) | assumption)
                    have hx14 := bt_at a0 x7_1
                    replace p14 := eq_true p14
                    replace q14 := eq_true q14
                    refine start_ (n := 11) (S := fun w' => w'.cell? ⟨gb216, 0, none⟩ = some (.string x217000_1) ∧ w'.cell? ⟨gb216, 1, none⟩ = some (.int .i64 (Int.tmod (wrap64 (Int.tdiv (wrap64 (bt a0 6)) 2)) 16))) (ds := [10]) #[false, false, false, false, false, false, false, false, false, false, false] (by kernel_rfl) rfl rfl ⟨(blk_cell BK216.out 0).trans rfl, (blk_cell BK216.out 1).trans rfl⟩ (fun hHeld => ?_); refine with_tabW squelchref04_Get.tab8 squelchref04_Get.bits8 (fun HT_ HW_ => ?_)
                    generalize wr.drew = w16 at BK215 BK216 HB hHeld ⊢
                    refine pure_ (i := 0) (N := some 28) (v := ?_) (a' := ?_) #[true, false, false, false, false, false, false, false, false, false, false] rfl rfl (any_of HT_.out (by kernel_rfl)) (fun _ _ _ h => h) (Or.inl ⟨by rfl, ?_⟩) ?_ ?_
                    rotate_left
                    · intro w'
                      go_simp
                      with_reducible rfl
                    rotate_left
                    · simp only [Act.put, List.setIfInBounds_toArray, List.set_cons_zero, List.set_cons_succ, i64_w, i32_w]
                      rfl
                    refine pure_ (i := 2) (N := some 30) (v := ?_) (a' := ?_) #[true, false, true, false, false, false, false, false, false, false, false] rfl rfl (any_of HT_.out (by kernel_rfl)) (fun _ _ _ h => h) (Or.inl ⟨by rfl, ?_⟩) ?_ ?_
                    rotate_left
                    · intro w'
                      go_simp
                      with_reducible rfl
                    rotate_left
                    · simp only [Act.put, List.setIfInBounds_toArray, List.set_cons_zero, List.set_cons_succ, i64_w, i32_w]
                      rfl
                    refine pure_ (i := 3) (N := some 31) (v := ?_) (a' := ?_) #[true, false, true, true, false, false, false, false, false, false, false] rfl rfl (any_of HT_.out (by kernel_rfl)) (fun _ _ _ h => h) (Or.inl ⟨by rfl, ?_⟩) ?_ ?_
                    rotate_left
                    · intro w'
                      go_simp
                      with_reducible rfl
                    rotate_left
                    · simp only [Act.put, List.setIfInBounds_toArray, List.set_cons_zero, List.set_cons_succ, i64_w, i32_w]
                      rfl
                    refine take_ (i := 1) (N := some 29) (v := ?_) (a' := ?_) #[true, true, true, true, false, false, false, false, false, false, false] rfl rfl (take_ofW HT_.out HW_.out (by kernel_rfl)) (fun _ _ _ h => h) (Or.inl ⟨by rfl, ?_⟩) hHeld ?_ ?_
                    rotate_left
                    · rintro w' ⟨s0, s1⟩
                      go_simp
                      with_reducible rfl
                    rotate_left
                    · simp only [Act.put, List.setIfInBounds_toArray, List.set_cons_zero, List.set_cons_succ, i64_w, i32_w]
                      rfl
                    refine take_ (i := 4) (N := some 32) (v := ?_) (a' := ?_) #[true, true, true, true, true, false, false, false, false, false, false] rfl rfl (take_ofW HT_.out HW_.out (by kernel_rfl)) (fun _ _ _ h => h) (Or.inl ⟨by rfl, ?_⟩) hHeld ?_ ?_
                    rotate_left
                    · rintro w' ⟨s0, s1⟩
                      go_simp
                      with_reducible rfl
                    rotate_left
                    · simp only [Act.put, List.setIfInBounds_toArray, List.set_cons_zero, List.set_cons_succ, i64_w, i32_w]
                      rfl
                    refine pure_ (i := 5) (N := some 33) (v := ?_) (a' := ?_) #[true, true, true, true, true, true, false, false, false, false, false] rfl rfl (any_of HT_.out (by kernel_rfl)) (fun _ _ _ h => h) (Or.inl ⟨by rfl, ?_⟩) ?_ ?_
                    rotate_left
                    · intro w'
                      go_simp
                      with_reducible rfl
                    rotate_left
                    · simp only [Act.put, List.setIfInBounds_toArray, List.set_cons_zero, List.set_cons_succ, i64_w, i32_w]
                      rfl
                    refine one_ (i := 6) (N := some 34) #[true, true, true, true, true, true, true, false, false, false, false] rfl rfl (one_of HT_.out (by kernel_rfl)) (by decide) (fun K hK => ?_)
                    refine Kd.R_lit_step (Kd.int .u8) _ 5 ?hg (N := 34) ?hd (xs := ([(Int.tdiv (bt a0 x7_1) 2) % 256] : List Int)) (inner := [.int .u8 ((Int.tdiv (bt a0 x7_1) 2) % 256)]) (ok := fun _ => True) (okp := fun _ => True) ?hr ?hp (fun _ hk => hk) trivial (Below.refl _ _) (Nat.le_refl _) (by simp) ?_; (case hd => rfl); (case hg => rfl); (case hr => first | (go_simp; done) | (go_simp; rfl)); (case hp => exact (Reps.one (show Kd.M (Kd.int .u8) _ _ _ ((Int.tdiv (bt a0 x7_1) 2) % 256) [.int .u8 ((Int.tdiv (bt a0 x7_1) 2) % 256)] from rfl) (Reps.none _ _)))
                    intro v218 w17 ho18 hb hg_ hnew_
                    clear hg_ hnew_
                    (first | rw [← Ny217.out] at ho18 | (simp only [Int.reduceToNat] at ho18; rw [← Ny217.out] at ho18))
                    have n0_ := Aside0.mk (Kd.R_lower ho18 (below_size (by repeat (first | (with_reducible first | exact HB.out | apply below_alloc | apply pw_below_drewN | apply below_drew1 | refine below_set ?_ GE215.out | refine below_set ?_ GE216.out) | exact HB.out))))
                    have n1_ := Aside0.mk (blk_below (g := gb215) (o := .cells #[.string (⟨#[]⟩ : ByteArray), .int .i64 0] 23 (0, 0)) (by (with_reducible repeat (first | refine blk_drewN ?_ _ | refine blk_drew ?_ | refine blk_alloc ?_ _)); exact BK215.out) hb)
                    have n2_ := Aside0.mk (blk_below (g := gb216) (o := .cells #[.string x217000_1, .int .i64 (Int.tmod (wrap64 (Int.tdiv (wrap64 (bt a0 6)) 2)) 16)] 23 (0, 0)) (by (with_reducible repeat (first | refine blk_drewN ?_ _ | refine blk_drew ?_ | refine blk_alloc ?_ _)); exact BK216.out) hb)
                    have n3_ := Aside0.mk (below_step (by repeat (first | (with_reducible first | exact HB.out | apply below_alloc | apply pw_below_drewN | apply below_drew1 | refine below_set ?_ GE215.out | refine below_set ?_ GE216.out) | exact HB.out)) hb)
                    clear BK215
                    clear BK216
                    clear HB
                    have HO219 := n0_
                    have BK215 := n1_
                    have BK216 := n2_
                    have HB := n3_
                    clear n0_ n1_ n2_ n3_
                    clear hb ho18
                    refine hK.out _ _ ⟨(blk_cell BK216.out 0).trans rfl, (blk_cell BK216.out 1).trans rfl⟩ (fun hHeld => ?_)
                    clear hK K
                    refine norm_ (a' := ?_) ?_ ?_
                    rotate_left
                    · show Act.put _ (some 34) _ = _
                      simp only [Act.put, List.setIfInBounds_toArray, List.set_cons_zero, List.set_cons_succ, i64_w, i32_w]
                      rfl
                    refine one_ (i := 7) (N := some 35) #[true, true, true, true, true, true, true, true, false, false, false] rfl rfl (one_of HT_.out (by kernel_rfl)) (by decide) (fun K hK => ?_)
                    have hcv19 := own_string (P := Tryd.prog) Tryd.underlying104 Tryd.underlying5 Tryd.underlying9 (Kd.own_of_R HO219.out)
                    refine value_ (w1 := ?_) (v := ?_) (by rfl) rfl ?_ ?_
                    rotate_left 2
                    · go_simp
                      constructor
                      · rfl
                      · rfl
                    clear hcv19
                    refine hK.out _ _ ⟨(blk_cell BK216.out 0).trans rfl, (blk_cell BK216.out 1).trans rfl⟩ (fun hHeld => ?_)
                    clear hK K
                    refine norm_ (a' := ?_) ?_ ?_
                    rotate_left
                    · show Act.put _ (some 35) _ = _
                      simp only [Act.put, List.setIfInBounds_toArray, List.set_cons_zero, List.set_cons_succ, i64_w, i32_w]
                      rfl
                    refine pure_ (i := 8) (N := some 36) (v := ?_) (a' := ?_) #[true, true, true, true, true, true, true, true, true, false, false] rfl rfl (any_of HT_.out (by kernel_rfl)) (fun _ _ _ h => h) (Or.inl ⟨by rfl, ?_⟩) ?_ ?_
                    rotate_left
                    · intro w'
                      go_simp
                      with_reducible rfl
                    rotate_left
                    · simp only [Act.put, List.setIfInBounds_toArray, List.set_cons_zero, List.set_cons_succ, i64_w, i32_w]
                      rfl
                    refine pure_ (i := 9) (N := some 37) (v := ?_) (a' := ?_) #[true, true, true, true, true, true, true, true, true, true, false] rfl rfl (any_of HT_.out (by kernel_rfl)) (fun _ _ _ h => h) (Or.inl ⟨by rfl, ?_⟩) ?_ ?_
                    rotate_left
                    · intro w'
                      go_simp
                      with_reducible rfl
                    rotate_left
                    · simp only [Act.put, List.setIfInBounds_toArray, List.set_cons_zero, List.set_cons_succ, i64_w, i32_w]
                      rfl
                    refine last_ (i := 10) (N := none) #[true, true, true, true, true, true, true, true, true, true, true] rfl rfl (one_of HT_.out (by kernel_rfl)) (by decide) (fun K hK => ?_)
                    have hs20 : w17.cell? ⟨gb216, 0, none⟩ = some (.string x217000_1) := (blk_cell BK216.out 0).trans rfl
                    have hfs20 := blk_frozen BK216.out 0
                    have hns20_0 := NB215_216.out
                    have hms20_0 := NB216_215.out
                    refine skip_ (w1 := ?_) (by rfl) rfl ?_ ?_
                    rotate_left
                    · go_simp
                      rfl
                    refine hK.out _ _ ?_
                    clear hK K
                    refine done_ (done_of HT_.out (by kernel_rfl)) ?_
                    try go_wp2
                    go_roundg k1
                    case measure => have := HK1.out; omega
                    case rel => exact ⟨(wrap64 (x7_1 + 1)), (x217000_1 ++ (strOfNums y217)), (by first | rfl | (simp; done) | (simp [*]; done) | (simp; exact (fun l : List UInt8 => (by cases l <;> rfl : l.isEmpty = !(l != []))) _)), H', ⟨by have := HK1.out; omega⟩, ⟨by (with_reducible repeat (first | refine blk_drewN ?_ _ | refine blk_drew ?_ | refine blk_alloc ?_ _)); refine blk_far ?_ NB215_216.out _; (with_reducible repeat (first | refine blk_drewN ?_ _ | refine blk_drew ?_ | refine blk_alloc ?_ _)); exact BK215.out⟩, ⟨by (with_reducible repeat (first | refine blk_drewN ?_ _ | refine blk_drew ?_ | refine blk_alloc ?_ _)); refine blk_put (cs := #[.string x217000_1, .int .i64 (Int.tmod (wrap64 (Int.tdiv (wrap64 (bt a0 6)) 2)) 16)]) ?_ 0 _ rfl; (with_reducible repeat (first | refine blk_drewN ?_ _ | refine blk_drew ?_ | refine blk_alloc ?_ _)); exact BK216.out⟩, ⟨by repeat (first | (with_reducible first | exact HB.out | apply below_alloc | apply pw_below_drewN | apply below_drew1 | refine below_set ?_ GE215.out | refine below_set ?_ GE216.out) | exact HB.out)⟩⟩
                  · rw [if_neg c15] at H
                    exact absurd H (by simp)
              · rw [if_neg c11] at H
                exact absurd H (by simp)
            · rw [if_neg c10] at H
              exact absurd H (by simp)
          · rw [if_neg c9] at H
            have c9b0 : decide (x7_1 < 6) = false := decide_eq_false c9
            clear c9
            by_cases c21 : 6 < (a0.size : Int)
            · rw [if_pos c21] at H
              have c21b0 : decide (6 < (a0.size : Int)) = true := decide_eq_true c21
              have c21b1 : decide (6 < a0.size) = true := decide_eq_true (by omega)
              clear c21
              replace H := Option.bind_eq_some_iff.mp H
              obtain ⟨t220, A240, H⟩ := H
              replace H : (if t220 = true then ((squelchref04_Put.f k1 x217000_1 (Int.tmod (wrap64 (Int.tdiv (wrap64 (bt a0 6)) 2)) 16) (decide ((bt a0 6) ≥ 128)) ((Int.tmod (bt a0 6) 2) == 1)).bind fun t221 => (if t221.toList = a0.toList then (some (x217000_1, (Int.tmod (wrap64 (Int.tdiv (wrap64 (bt a0 6)) 2)) 16), decide ((bt a0 6) ≥ 128), ((Int.tmod (bt a0 6) 2) == 1), true)) else (some ((⟨#[]⟩ : ByteArray), 0, false, false, false)))) else (some ((⟨#[]⟩ : ByteArray), 0, false, false, false))) = some (r1, r2, r3, r4, r5) := H
              have A24 := Aside0.mk A240
              clear A240
              by_cases c25 : t220 = true
              · subst c25
                have H1 : ((squelchref04_Put.f k1 x217000_1 (Int.tmod (wrap64 (Int.tdiv (wrap64 (bt a0 6)) 2)) 16) (decide ((bt a0 6) ≥ 128)) ((Int.tmod (bt a0 6) 2) == 1)).bind fun t221 => (if t221.toList = a0.toList then (some (x217000_1, (Int.tmod (wrap64 (Int.tdiv (wrap64 (bt a0 6)) 2)) 16), decide ((bt a0 6) ≥ 128), ((Int.tmod (bt a0 6) 2) == 1), true)) else (some ((⟨#[]⟩ : ByteArray), 0, false, false, false)))) = some (r1, r2, r3, r4, r5) := by rw [if_pos rfl] at H; exact H
                clear H
                have H := H1
                clear H1
                replace H := Option.bind_eq_some_iff.mp H
                obtain ⟨t221, A260, H⟩ := H
                replace H : (if t221.toList = a0.toList then (some (x217000_1, (Int.tmod (wrap64 (Int.tdiv (wrap64 (bt a0 6)) 2)) 16), decide ((bt a0 6) ≥ 128), ((Int.tmod (bt a0 6) 2) == 1), true)) else (some ((⟨#[]⟩ : ByteArray), 0, false, false, false))) = some (r1, r2, r3, r4, r5) := H
                have A26 := Aside0.mk A260
                clear A260
                by_cases c27 : t221.toList = a0.toList
                · rw [if_pos c27] at H
                  have c27b0 : (t221.toList == a0.toList) = true := beq_iff_eq.mpr c27
                  have c27b1 : (t221.toList != a0.toList) = false := bne_eq_false_iff_eq.mpr c27
                  clear c27
                  simp only [Option.some.injEq, Prod.mk.injEq] at H
                  obtain ⟨rfl, rfl, rfl, rfl, rfl⟩ := H
                  try go_wp2
                  have n0_ := Aside0.mk (blk_drew BK215.out)
                  have n1_ := Aside0.mk (blk_drew BK216.out)
                  have n2_ := Aside0.mk (below_drew1 HB.out)
                  clear BK215
                  clear BK216
                  clear HB
                  have BK215 := n0_
                  have BK216 := n1_
                  have HB := n2_
                  clear n0_ n1_ n2_
                  have p22 : 0 ≤ (6 : Int) := (by omega)
                  have q22 : 6 < a0.size := (by have : (6 : Int) < (a0.size : Int) := of_decide_eq_true (by first | (with_reducible assumption) | assumption); omega)
                  have hx22 : ∀ h : 6 < a0.size, ((a0[6]'h).toNat : Int) = bt a0 6 := bt_at a0 6
                  clear p22
                  have qi22 : (6 < (a0.size : Int)) = True := eq_true (of_decide_eq_true (by first | (with_reducible assumption) | assumption))
                  replace q22 := eq_true q22
                  have p23 : 0 ≤ (6 : Int) := (by omega)
                  have q23 : 6 < a0.size := (by have : (6 : Int) < (a0.size : Int) := of_decide_eq_true (by first | (with_reducible assumption) | assumption); omega)
                  have hx23 : ∀ h : 6 < a0.size, ((a0[6]'h).toNat : Int) = bt a0 6 := bt_at a0 6
                  clear p23
                  have qi23 : (6 < (a0.size : Int)) = True := eq_true (of_decide_eq_true (by first | (with_reducible assumption) | assumption))
                  replace q23 := eq_true q23
                  refine start_ (n := 9) (S := fun w' => True) (ds := []) #[false, false, false, false, false, false, false, false, false] (by kernel_rfl) rfl rfl trivial (fun hHeld => ?_); refine with_tabW squelchref04_Get.tab9 squelchref04_Get.bits9 (fun HT_ HW_ => ?_)
                  generalize wr.drew = w28 at BK215 BK216 HB hHeld ⊢
                  refine pure_ (i := 0) (N := some 38) (v := ?_) (a' := ?_) #[true, false, false, false, false, false, false, false, false] rfl rfl (any_of HT_.out (by kernel_rfl)) (fun _ _ _ h => h) (Or.inl ⟨by rfl, ?_⟩) ?_ ?_
                  rotate_left
                  · intro w'
                    go_simp
                    with_reducible rfl
                  rotate_left
                  · simp only [Act.put, List.setIfInBounds_toArray, List.set_cons_zero, List.set_cons_succ, i64_w, i32_w]
                    rfl
                  refine pure_ (i := 3) (N := some 41) (v := ?_) (a' := ?_) #[true, false, false, true, false, false, false, false, false] rfl rfl (any_of HT_.out (by kernel_rfl)) (fun _ _ _ h => h) (Or.inl ⟨by rfl, ?_⟩) ?_ ?_
                  rotate_left
                  · intro w'
                    go_simp
                    with_reducible rfl
                  rotate_left
                  · simp only [Act.put, List.setIfInBounds_toArray, List.set_cons_zero, List.set_cons_succ, i64_w, i32_w]
                    rfl
                  refine take_ (i := 1) (N := some 39) (v := ?_) (a' := ?_) #[true, true, false, true, false, false, false, false, false] rfl rfl (take_ofW HT_.out HW_.out (by kernel_rfl)) (fun _ _ _ h => h) (Or.inl ⟨by rfl, ?_⟩) hHeld ?_ ?_
                  rotate_left
                  · intro w' _
                    go_simp
                    with_reducible rfl
                  rotate_left
                  · simp only [Act.put, List.setIfInBounds_toArray, List.set_cons_zero, List.set_cons_succ, i64_w, i32_w]
                    rfl
                  refine pure_ (i := 2) (N := some 40) (v := ?_) (a' := ?_) #[true, true, true, true, false, false, false, false, false] rfl rfl (any_of HT_.out (by kernel_rfl)) (fun _ _ _ h => h) (Or.inl ⟨by rfl, ?_⟩) ?_ ?_
                  rotate_left
                  · intro w'
                    go_simp
                    with_reducible rfl
                  rotate_left
                  · simp only [Act.put, List.setIfInBounds_toArray, List.set_cons_zero, List.set_cons_succ, i64_w, i32_w]
                    rfl
                  refine pure_ (i := 7) (N := some 8) (v := ?_) (a' := ?_) #[true, true, true, true, false, false, false, true, false] rfl rfl (any_of HT_.out (by kernel_rfl)) (fun _ _ _ h => h) (Or.inl ⟨by rfl, ?_⟩) ?_ ?_
                  rotate_left
                  · intro w'
                    go_simp
                    with_reducible rfl
                  rotate_left
                  · simp only [Act.put, List.setIfInBounds_toArray, List.set_cons_zero, List.set_cons_succ, i64_w, i32_w]
                    rfl
                  refine take_ (i := 4) (N := some 42) (v := ?_) (a' := ?_) #[true, true, true, true, true, false, false, true, false] rfl rfl (take_ofW HT_.out HW_.out (by kernel_rfl)) (fun _ _ _ h => h) (Or.inl ⟨by rfl, ?_⟩) hHeld ?_ ?_
                  rotate_left
                  · intro w' _
                    go_simp
                    with_reducible rfl
                  rotate_left
                  · simp only [Act.put, List.setIfInBounds_toArray, List.set_cons_zero, List.set_cons_succ, i64_w, i32_w]
                    rfl
                  refine pure_ (i := 5) (N := some 43) (v := ?_) (a' := ?_) #[true, true, true, true, true, true, false, true, false] rfl rfl (any_of HT_.out (by kernel_rfl)) (fun _ _ _ h => h) (Or.inl ⟨by rfl, ?_⟩) ?_ ?_
                  rotate_left
                  · intro w'
                    go_simp
                    with_reducible rfl
                  rotate_left
                  · simp only [Act.put, List.setIfInBounds_toArray, List.set_cons_zero, List.set_cons_succ, i64_w, i32_w]
                    rfl
                  refine pure_ (i := 6) (N := some 44) (v := ?_) (a' := ?_) #[true, true, true, true, true, true, true, true, false] rfl rfl (any_of HT_.out (by kernel_rfl)) (fun _ _ _ h => h) (Or.inl ⟨by rfl, ?_⟩) ?_ ?_
                  rotate_left
                  · intro w'
                    go_simp
                    with_reducible rfl
                  rotate_left
                  · simp only [Act.put, List.setIfInBounds_toArray, List.set_cons_zero, List.set_cons_succ, i64_w, i32_w]
                    rfl
                  refine pure_ (i := 8) (N := some 9) (v := ?_) (a' := ?_) #[true, true, true, true, true, true, true, true, true] rfl rfl (any_of HT_.out (by kernel_rfl)) (fun _ _ _ h => h) (Or.inl ⟨by rfl, ?_⟩) ?_ ?_
                  rotate_left
                  · intro w'
                    go_simp
                    with_reducible rfl
                  rotate_left
                  · simp only [Act.put, List.setIfInBounds_toArray, List.set_cons_zero, List.set_cons_succ, i64_w, i32_w]
                    rfl
                  refine done_ (done_of HT_.out (by kernel_rfl)) ?_
                  have hnb29 := NB216_215.out
                  have hnc29 := NB215_216.out
                  have hcz30_0 : w28.cell? ⟨gb216, 0, none⟩ = some (.string x217000_1) := (blk_cell BK216.out 0).trans rfl
                  have hcz30_1 : w28.cell? ⟨gb216, 1, none⟩ = some (.int .i64 (Int.tmod (wrap64 (Int.tdiv (wrap64 (bt a0 6)) 2)) 16)) := (blk_cell BK216.out 1).trans rfl
                  have hfz30_0 := blk_frozen BK216.out 0
                  have hfz30_1 := blk_frozen BK216.out 1
                  try go_wp2_with (first | ((with_reducible refine gate_callee (f := 39) rfl ?_); refine goesL_ (some 46) rfl rfl Tryd.func39 (by kernel_rfl) rfl #[.agg #[.string x217000_1, .int .i64 (Int.tmod (wrap64 (Int.tdiv (wrap64 (bt a0 6)) 2)) 16)]] rfl (by (try simp only [List.map_toArray, List.map_cons, List.map_nil]); first | done | rfl | (simp only [List.length_drop, List.length_take]; rfl)) ?_; (with_reducible refine (squelchref04_Right.calls k1 x217000_1 (Int.tmod (wrap64 (Int.tdiv (wrap64 (bt a0 6)) 2)) 16) true _ A24.out).mono ?_); rintro e w31 ⟨rfl, hb⟩; refine ⟨_, rfl, ?_⟩; have n0_ := Aside0.mk (blk_below (g := gb215) (o := .cells #[.string (⟨#[]⟩ : ByteArray), .int .i64 0] 23 (0, 0)) (by (with_reducible repeat (first | refine blk_drewN ?_ _ | refine blk_drew ?_ | refine blk_alloc ?_ _)); exact BK215.out) hb); have n1_ := Aside0.mk (blk_below (g := gb216) (o := .cells #[.string x217000_1, .int .i64 (Int.tmod (wrap64 (Int.tdiv (wrap64 (bt a0 6)) 2)) 16)] 23 (0, 0)) (by (with_reducible repeat (first | refine blk_drewN ?_ _ | refine blk_drew ?_ | refine blk_alloc ?_ _)); exact BK216.out) hb); have n2_ := Aside0.mk (below_step (by repeat (first | (with_reducible first | exact HB.out | apply below_alloc | apply pw_below_drewN | apply below_drew1 | refine below_set ?_ GE215.out | refine below_set ?_ GE216.out) | exact HB.out)) hb); clear BK215; clear BK216; clear HB; have BK215 := n0_; have BK216 := n1_; have HB := n2_; clear n0_ n1_ n2_; (try clear hb); (try clear hb2); (try clear hk); (try clear hi); have hcz32_0 : w31.cell? ⟨gb216, 0, none⟩ = some (.string x217000_1) := (blk_cell BK216.out 0).trans rfl; have hcz32_1 : w31.cell? ⟨gb216, 1, none⟩ = some (.int .i64 (Int.tmod (wrap64 (Int.tdiv (wrap64 (bt a0 6)) 2)) 16)) := (blk_cell BK216.out 1).trans rfl; have hfz32_0 := blk_frozen BK216.out 0; have hfz32_1 := blk_frozen BK216.out 1) | (go_at_call 53; (with_reducible refine (squelchref04_Put.calls k1 x217000_1 (Int.tmod (wrap64 (Int.tdiv (wrap64 (bt a0 6)) 2)) 16) (decide ((bt a0 6) ≥ 128)) ((Int.tmod (bt a0 6) 2) == 1) t221 _ A26.out).mono ?_); rintro e w33 ⟨rfl, hb⟩; have n0_ := Aside0.mk (blk_below (g := gb215) (o := .cells #[.string (⟨#[]⟩ : ByteArray), .int .i64 0] 23 (0, 0)) (by (with_reducible repeat (first | refine blk_drewN ?_ _ | refine blk_drew ?_ | refine blk_alloc ?_ _)); exact BK215.out) hb); have n1_ := Aside0.mk (blk_below (g := gb216) (o := .cells #[.string x217000_1, .int .i64 (Int.tmod (wrap64 (Int.tdiv (wrap64 (bt a0 6)) 2)) 16)] 23 (0, 0)) (by (with_reducible repeat (first | refine blk_drewN ?_ _ | refine blk_drew ?_ | refine blk_alloc ?_ _)); exact BK216.out) hb); have n2_ := Aside0.mk (below_step (by repeat (first | (with_reducible first | exact HB.out | apply below_alloc | apply pw_below_drewN | apply below_drew1 | refine below_set ?_ GE215.out | refine below_set ?_ GE216.out) | exact HB.out)) hb); clear BK215; clear BK216; clear HB; have BK215 := n0_; have BK216 := n1_; have HB := n2_; clear n0_ n1_ n2_; (try clear hb); (try clear hb2); (try clear hk); (try clear hi); have hcz34_0 : w33.cell? ⟨gb216, 0, none⟩ = some (.string x217000_1) := (blk_cell BK216.out 0).trans rfl; have hcz34_1 : w33.cell? ⟨gb216, 1, none⟩ = some (.int .i64 (Int.tmod (wrap64 (Int.tdiv (wrap64 (bt a0 6)) 2)) 16)) := (blk_cell BK216.out 1).trans rfl; have hfz34_0 := blk_frozen BK216.out 0; have hfz34_1 := blk_frozen BK216.out 1; have hcz35_0 : w33.cell? ⟨gb215, 0, none⟩ = some (.string (⟨#[]⟩ : ByteArray)) := (blk_cell BK215.out 0).trans rfl; have hcz35_1 : w33.cell? ⟨gb215, 1, none⟩ = some (.int .i64 0) := (blk_cell BK215.out 1).trans rfl; have hfz35_0 := blk_frozen BK215.out 0; have hfz35_1 := blk_frozen BK215.out 1))
                  refine bodyPost_ret (results_list (rs := [.cell 2 23, .tmp 3, .tmp 4, .tmp 5]) rfl (by simp) (.cell gb215 23 #[.string x217000_1, .int .i64 (Int.tmod (wrap64 (Int.tdiv (wrap64 (bt a0 6)) 2)) 16)] (0, 0) _ rfl (by (with_reducible repeat (first | refine blk_drewN ?_ _ | refine blk_drew ?_ | refine blk_alloc ?_ _)); refine blk_put (cs := #[.string x217000_1, .int .i64 0]) ?_ 1 _ rfl; (with_reducible repeat (first | refine blk_drewN ?_ _ | refine blk_drew ?_ | refine blk_alloc ?_ _)); refine blk_put (cs := #[.string (⟨#[]⟩ : ByteArray), .int .i64 0]) ?_ 0 _ rfl; (with_reducible repeat (first | refine blk_drewN ?_ _ | refine blk_drew ?_ | refine blk_alloc ?_ _)); exact BK215.out) Tryd.underlying23 rfl (by kernel_rfl) (.tmp (.tmp (.tmp .nil))))) rfl ?_
                  exact ⟨by first | rfl | (simp [errW_none, errW_some] <;> rfl) | (simp [*, errW_none, errW_some] <;> rfl), by repeat (first | (with_reducible first | exact HB.out | apply below_alloc | apply pw_below_drewN | apply below_drew1 | refine below_set ?_ GE215.out | refine below_set ?_ GE216.out) | exact HB.out)⟩
                · rw [if_neg c27] at H
                  have c27b0 : (t221.toList == a0.toList) = false := beq_eq_false_iff_ne.mpr c27
                  have c27b1 : (t221.toList != a0.toList) = true := bne_iff_ne.mpr c27
                  simp only [Option.some.injEq, Prod.mk.injEq] at H
                  obtain ⟨rfl, rfl, rfl, rfl, rfl⟩ := H
                  try go_wp2
                  have n0_ := Aside0.mk (blk_drew BK215.out)
                  have n1_ := Aside0.mk (blk_drew BK216.out)
                  have n2_ := Aside0.mk (below_drew1 HB.out)
                  clear BK215
                  clear BK216
                  clear HB
                  have BK215 := n0_
                  have BK216 := n1_
                  have HB := n2_
                  clear n0_ n1_ n2_
                  have p22 : 0 ≤ (6 : Int) := (by omega)
                  have q22 : 6 < a0.size := (by have : (6 : Int) < (a0.size : Int) := of_decide_eq_true (by first | (with_reducible assumption) | assumption); omega)
                  have hx22 : ∀ h : 6 < a0.size, ((a0[6]'h).toNat : Int) = bt a0 6 := bt_at a0 6
                  clear p22
                  have qi22 : (6 < (a0.size : Int)) = True := eq_true (of_decide_eq_true (by first | (with_reducible assumption) | assumption))
                  replace q22 := eq_true q22
                  have p23 : 0 ≤ (6 : Int) := (by omega)
                  have q23 : 6 < a0.size := (by have : (6 : Int) < (a0.size : Int) := of_decide_eq_true (by first | (with_reducible assumption) | assumption); omega)
                  have hx23 : ∀ h : 6 < a0.size, ((a0[6]'h).toNat : Int) = bt a0 6 := bt_at a0 6
                  clear p23
                  have qi23 : (6 < (a0.size : Int)) = True := eq_true (of_decide_eq_true (by first | (with_reducible assumption) | assumption))
                  replace q23 := eq_true q23
                  refine start_ (n := 9) (S := fun w' => True) (ds := []) #[false, false, false, false, false, false, false, false, false] (by kernel_rfl) rfl rfl trivial (fun hHeld => ?_); refine with_tabW squelchref04_Get.tab9 squelchref04_Get.bits9 (fun HT_ HW_ => ?_)
                  generalize wr.drew = w36 at BK215 BK216 HB hHeld ⊢
                  refine pure_ (i := 0) (N := some 38) (v := ?_) (a' := ?_) #[true, false, false, false, false, false, false, false, false] rfl rfl (any_of HT_.out (by kernel_rfl)) (fun _ _ _ h => h) (Or.inl ⟨by rfl, ?_⟩) ?_ ?_
                  rotate_left
                  · intro w'
                    go_simp
                    with_reducible rfl
                  rotate_left
                  · simp only [Act.put, List.setIfInBounds_toArray, List.set_cons_zero, List.set_cons_succ, i64_w, i32_w]
                    rfl
                  refine pure_ (i := 3) (N := some 41) (v := ?_) (a' := ?_) #[true, false, false, true, false, false, false, false, false] rfl rfl (any_of HT_.out (by kernel_rfl)) (fun _ _ _ h => h) (Or.inl ⟨by rfl, ?_⟩) ?_ ?_
                  rotate_left
                  · intro w'
                    go_simp
                    with_reducible rfl
                  rotate_left
                  · simp only [Act.put, List.setIfInBounds_toArray, List.set_cons_zero, List.set_cons_succ, i64_w, i32_w]
                    rfl
                  refine take_ (i := 1) (N := some 39) (v := ?_) (a' := ?_) #[true, true, false, true, false, false, false, false, false] rfl rfl (take_ofW HT_.out HW_.out (by kernel_rfl)) (fun _ _ _ h => h) (Or.inl ⟨by rfl, ?_⟩) hHeld ?_ ?_
                  rotate_left
                  · intro w' _
                    go_simp
                    with_reducible rfl
                  rotate_left
                  · simp only [Act.put, List.setIfInBounds_toArray, List.set_cons_zero, List.set_cons_succ, i64_w, i32_w]
                    rfl
                  refine pure_ (i := 2) (N := some 40) (v := ?_) (a' := ?_) #[true, true, true, true, false, false, false, false, false] rfl rfl (any_of HT_.out (by kernel_rfl)) (fun _ _ _ h => h) (Or.inl ⟨by rfl, ?_⟩) ?_ ?_
                  rotate_left
                  · intro w'
                    go_simp
                    with_reducible rfl
                  rotate_left
                  · simp only [Act.put, List.setIfInBounds_toArray, List.set_cons_zero, List.set_cons_succ, i64_w, i32_w]
                    rfl
                  refine pure_ (i := 7) (N := some 8) (v := ?_) (a' := ?_) #[true, true, true, true, false, false, false, true, false] rfl rfl (any_of HT_.out (by kernel_rfl)) (fun _ _ _ h => h) (Or.inl ⟨by rfl, ?_⟩) ?_ ?_
                  rotate_left
                  · intro w'
                    go_simp
                    with_reducible rfl
                  rotate_left
                  · simp only [Act.put, List.setIfInBounds_toArray, List.set_cons_zero, List.set_cons_succ, i64_w, i32_w]
                    rfl
                  refine take_ (i := 4) (N := some 42) (v := ?_) (a' := ?_) #[true, true, true, true, true, false, false, true, false] rfl rfl (take_ofW HT_.out HW_.out (by kernel_rfl)) (fun _ _ _ h => h) (Or.inl ⟨by rfl, ?_⟩) hHeld ?_ ?_
                  rotate_left
                  · intro w' _
                    go_simp
                    with_reducible rfl
                  rotate_left
                  · simp only [Act.put, List.setIfInBounds_toArray, List.set_cons_zero, List.set_cons_succ, i64_w, i32_w]
                    rfl
                  refine pure_ (i := 5) (N := some 43) (v := ?_) (a' := ?_) #[true, true, true, true, true, true, false, true, false] rfl rfl (any_of HT_.out (by kernel_rfl)) (fun _ _ _ h => h) (Or.inl ⟨by rfl, ?_⟩) ?_ ?_
                  rotate_left
                  · intro w'
                    go_simp
                    with_reducible rfl
                  rotate_left
                  · simp only [Act.put, List.setIfInBounds_toArray, List.set_cons_zero, List.set_cons_succ, i64_w, i32_w]
                    rfl
                  refine pure_ (i := 6) (N := some 44) (v := ?_) (a' := ?_) #[true, true, true, true, true, true, true, true, false] rfl rfl (any_of HT_.out (by kernel_rfl)) (fun _ _ _ h => h) (Or.inl ⟨by rfl, ?_⟩) ?_ ?_
                  rotate_left
                  · intro w'
                    go_simp
                    with_reducible rfl
                  rotate_left
                  · simp only [Act.put, List.setIfInBounds_toArray, List.set_cons_zero, List.set_cons_succ, i64_w, i32_w]
                    rfl
                  refine pure_ (i := 8) (N := some 9) (v := ?_) (a' := ?_) #[true, true, true, true, true, true, true, true, true] rfl rfl (any_of HT_.out (by kernel_rfl)) (fun _ _ _ h => h) (Or.inl ⟨by rfl, ?_⟩) ?_ ?_
                  rotate_left
                  · intro w'
                    go_simp
                    with_reducible rfl
                  rotate_left
                  · simp only [Act.put, List.setIfInBounds_toArray, List.set_cons_zero, List.set_cons_succ, i64_w, i32_w]
                    rfl
                  refine done_ (done_of HT_.out (by kernel_rfl)) ?_
                  have hnb37 := NB216_215.out
                  have hnc37 := NB215_216.out
                  have hcz38_0 : w36.cell? ⟨gb216, 0, none⟩ = some (.string x217000_1) := (blk_cell BK216.out 0).trans rfl
                  have hcz38_1 : w36.cell? ⟨gb216, 1, none⟩ = some (.int .i64 (Int.tmod (wrap64 (Int.tdiv (wrap64 (bt a0 6)) 2)) 16)) := (blk_cell BK216.out 1).trans rfl
                  have hfz38_0 := blk_frozen BK216.out 0
                  have hfz38_1 := blk_frozen BK216.out 1
                  try go_wp2_with (first | ((with_reducible refine gate_callee (f := 39) rfl ?_); refine goesL_ (some 46) rfl rfl Tryd.func39 (by kernel_rfl) rfl #[.agg #[.string x217000_1, .int .i64 (Int.tmod (wrap64 (Int.tdiv (wrap64 (bt a0 6)) 2)) 16)]] rfl (by (try simp only [List.map_toArray, List.map_cons, List.map_nil]); first | done | rfl | (simp only [List.length_drop, List.length_take]; rfl)) ?_; (with_reducible refine (squelchref04_Right.calls k1 x217000_1 (Int.tmod (wrap64 (Int.tdiv (wrap64 (bt a0 6)) 2)) 16) true _ A24.out).mono ?_); rintro e w39 ⟨rfl, hb⟩; refine ⟨_, rfl, ?_⟩; have n0_ := Aside0.mk (blk_below (g := gb215) (o := .cells #[.string (⟨#[]⟩ : ByteArray), .int .i64 0] 23 (0, 0)) (by (with_reducible repeat (first | refine blk_drewN ?_ _ | refine blk_drew ?_ | refine blk_alloc ?_ _)); exact BK215.out) hb); have n1_ := Aside0.mk (blk_below (g := gb216) (o := .cells #[.string x217000_1, .int .i64 (Int.tmod (wrap64 (Int.tdiv (wrap64 (bt a0 6)) 2)) 16)] 23 (0, 0)) (by (with_reducible repeat (first | refine blk_drewN ?_ _ | refine blk_drew ?_ | refine blk_alloc ?_ _)); exact BK216.out) hb); have n2_ := Aside0.mk (below_step (by repeat (first | (with_reducible first | exact HB.out | apply below_alloc | apply pw_below_drewN | apply below_drew1 | refine below_set ?_ GE215.out | refine below_set ?_ GE216.out) | exact HB.out)) hb); clear BK215; clear BK216; clear HB; have BK215 := n0_; have BK216 := n1_; have HB := n2_; clear n0_ n1_ n2_; (try clear hb); (try clear hb2); (try clear hk); (try clear hi); have hcz40_0 : w39.cell? ⟨gb216, 0, none⟩ = some (.string x217000_1) := (blk_cell BK216.out 0).trans rfl; have hcz40_1 : w39.cell? ⟨gb216, 1, none⟩ = some (.int .i64 (Int.tmod (wrap64 (Int.tdiv (wrap64 (bt a0 6)) 2)) 16)) := (blk_cell BK216.out 1).trans rfl; have hfz40_0 := blk_frozen BK216.out 0; have hfz40_1 := blk_frozen BK216.out 1) | (go_at_call 53; (with_reducible refine (squelchref04_Put.calls k1 x217000_1 (Int.tmod (wrap64 (Int.tdiv (wrap64 (bt a0 6)) 2)) 16) (decide ((bt a0 6) ≥ 128)) ((Int.tmod (bt a0 6) 2) == 1) t221 _ A26.out).mono ?_); rintro e w41 ⟨rfl, hb⟩; have n0_ := Aside0.mk (blk_below (g := gb215) (o := .cells #[.string (⟨#[]⟩ : ByteArray), .int .i64 0] 23 (0, 0)) (by (with_reducible repeat (first | refine blk_drewN ?_ _ | refine blk_drew ?_ | refine blk_alloc ?_ _)); exact BK215.out) hb); have n1_ := Aside0.mk (blk_below (g := gb216) (o := .cells #[.string x217000_1, .int .i64 (Int.tmod (wrap64 (Int.tdiv (wrap64 (bt a0 6)) 2)) 16)] 23 (0, 0)) (by (with_reducible repeat (first | refine blk_drewN ?_ _ | refine blk_drew ?_ | refine blk_alloc ?_ _)); exact BK216.out) hb); have n2_ := Aside0.mk (below_step (by repeat (first | (with_reducible first | exact HB.out | apply below_alloc | apply pw_below_drewN | apply below_drew1 | refine below_set ?_ GE215.out | refine below_set ?_ GE216.out) | exact HB.out)) hb); clear BK215; clear BK216; clear HB; have BK215 := n0_; have BK216 := n1_; have HB := n2_; clear n0_ n1_ n2_; (try clear hb); (try clear hb2); (try clear hk); (try clear hi); have hcz42_0 : w41.cell? ⟨gb215, 0, none⟩ = some (.string (⟨#[]⟩ : ByteArray)) := (blk_cell BK215.out 0).trans rfl; have hcz42_1 : w41.cell? ⟨gb215, 1, none⟩ = some (.int .i64 0) := (blk_cell BK215.out 1).trans rfl; have hfz42_0 := blk_frozen BK215.out 0; have hfz42_1 := blk_frozen BK215.out 1))
                  refine bodyPost_ret (results_list (rs := [.cell 2 23, .tmp 3, .tmp 4, .tmp 5]) rfl (by simp) (.cell gb215 23 #[.string (⟨#[]⟩ : ByteArray), .int .i64 0] (0, 0) _ rfl (by (with_reducible repeat (first | refine blk_drewN ?_ _ | refine blk_drew ?_ | refine blk_alloc ?_ _)); refine blk_put (cs := #[.string (⟨#[]⟩ : ByteArray), .int .i64 0]) ?_ 1 _ rfl; (with_reducible repeat (first | refine blk_drewN ?_ _ | refine blk_drew ?_ | refine blk_alloc ?_ _)); refine blk_put (cs := #[.string (⟨#[]⟩ : ByteArray), .int .i64 0]) ?_ 0 _ rfl; (with_reducible repeat (first | refine blk_drewN ?_ _ | refine blk_drew ?_ | refine blk_alloc ?_ _)); exact BK215.out) Tryd.underlying23 rfl (by kernel_rfl) (.tmp (.tmp (.tmp .nil))))) rfl ?_
                  exact ⟨by first | rfl | (simp [errW_none, errW_some] <;> rfl) | (simp [*, errW_none, errW_some] <;> rfl), by repeat (first | (with_reducible first | exact HB.out | apply below_alloc | apply pw_below_drewN | apply below_drew1 | refine below_set ?_ GE215.out | refine below_set ?_ GE216.out) | exact HB.out)⟩
              · replace c25 := Bool.eq_false_iff.mpr c25
                subst c25
                have H1 : (some ((⟨#[]⟩ : ByteArray), 0, false, false, false)) = some (r1, r2, r3, r4, r5) := by rw [if_neg (show ¬ (false = true) by decide)] at H; exact H
                clear H
                have H := H1
                clear H1
                simp only [Option.some.injEq, Prod.mk.injEq] at H
                obtain ⟨rfl, rfl, rfl, rfl, rfl⟩ := H
                try go_wp2
                have n0_ := Aside0.mk (blk_drew BK215.out)
                have n1_ := Aside0.mk (blk_drew BK216.out)
                have n2_ := Aside0.mk (below_drew1 HB.out)
                clear BK215
                clear BK216
                clear HB
                have BK215 := n0_
                have BK216 := n1_
                have HB := n2_
                clear n0_ n1_ n2_
                have p22 : 0 ≤ (6 : Int) := (by omega)
                have q22 : 6 < a0.size := (by have : (6 : Int) < (a0.size : Int) := of_decide_eq_true (by first | (with_reducible assumption) | assumption); omega)
                have hx22 : ∀ h : 6 < a0.size, ((a0[6]'h).toNat : Int) = bt a0 6 := bt_at a0 6
                clear p22
                have qi22 : (6 < (a0.size : Int)) = True := eq_true (of_decide_eq_true (by first | (with_reducible assumption) | assumption))
                replace q22 := eq_true q22
                have p23 : 0 ≤ (6 : Int) := (by omega)
                have q23 : 6 < a0.size := (by have : (6 : Int) < (a0.size : Int) := of_decide_eq_true (by first | (with_reducible assumption) | assumption); omega)
                have hx23 : ∀ h : 6 < a0.size, ((a0[6]'h).toNat : Int) = bt a0 6 := bt_at a0 6
                clear p23
                have qi23 : (6 < (a0.size : Int)) = True := eq_true (of_decide_eq_true (by first | (with_reducible assumption) | assumption))
                replace q23 := eq_true q23
                refine start_ (n := 9) (S := fun w' => True) (ds := []) #[false, false, false, false, false, false, false, false, false] (by kernel_rfl) rfl rfl trivial (fun hHeld => ?_); refine with_tabW squelchref04_Get.tab9 squelchref04_Get.bits9 (fun HT_ HW_ => ?_)
                generalize wr.drew = w43 at BK215 BK216 HB hHeld ⊢
                refine pure_ (i := 0) (N := some 38) (v := ?_) (a' := ?_) #[true, false, false, false, false, false, false, false, false] rfl rfl (any_of HT_.out (by kernel_rfl)) (fun _ _ _ h => h) (Or.inl ⟨by rfl, ?_⟩) ?_ ?_
                rotate_left
                · intro w'
                  go_simp
                  with_reducible rfl
                rotate_left
                · simp only [Act.put, List.setIfInBounds_toArray, List.set_cons_zero, List.set_cons_succ, i64_w, i32_w]
                  rfl
                refine pure_ (i := 3) (N := some 41) (v := ?_) (a' := ?_) #[true, false, false, true, false, false, false, false, false] rfl rfl (any_of HT_.out (by kernel_rfl)) (fun _ _ _ h => h) (Or.inl ⟨by rfl, ?_⟩) ?_ ?_
                rotate_left
                · intro w'
                  go_simp
                  with_reducible rfl
                rotate_left
                · simp only [Act.put, List.setIfInBounds_toArray, List.set_cons_zero, List.set_cons_succ, i64_w, i32_w]
                  rfl
                refine take_ (i := 1) (N := some 39) (v := ?_) (a' := ?_) #[true, true, false, true, false, false, false, false, false] rfl rfl (take_ofW HT_.out HW_.out (by kernel_rfl)) (fun _ _ _ h => h) (Or.inl ⟨by rfl, ?_⟩) hHeld ?_ ?_
                rotate_left
                · intro w' _
                  go_simp
                  with_reducible rfl
                rotate_left
                · simp only [Act.put, List.setIfInBounds_toArray, List.set_cons_zero, List.set_cons_succ, i64_w, i32_w]
                  rfl
                refine pure_ (i := 2) (N := some 40) (v := ?_) (a' := ?_) #[true, true, true, true, false, false, false, false, false] rfl rfl (any_of HT_.out (by kernel_rfl)) (fun _ _ _ h => h) (Or.inl ⟨by rfl, ?_⟩) ?_ ?_
                rotate_left
                · intro w'
                  go_simp
                  with_reducible rfl
                rotate_left
                · simp only [Act.put, List.setIfInBounds_toArray, List.set_cons_zero, List.set_cons_succ, i64_w, i32_w]
                  rfl
                refine pure_ (i := 7) (N := some 8) (v := ?_) (a' := ?_) #[true, true, true, true, false, false, false, true, false] rfl rfl (any_of HT_.out (by kernel_rfl)) (fun _ _ _ h => h) (Or.inl ⟨by rfl, ?_⟩) ?_ ?_
                rotate_left
                · intro w'
                  go_simp
                  with_reducible rfl
                rotate_left
                · simp only [Act.put, List.setIfInBounds_toArray, List.set_cons_zero, List.set_cons_succ, i64_w, i32_w]
                  rfl
                refine take_ (i := 4) (N := some 42) (v := ?_) (a' := ?_) #[true, true, true, true, true, false, false, true, false] rfl rfl (take_ofW HT_.out HW_.out (by kernel_rfl)) (fun _ _ _ h => h) (Or.inl ⟨by rfl, ?_⟩) hHeld ?_ ?_
                rotate_left
                · intro w' _
                  go_simp
                  with_reducible rfl
                rotate_left
                · simp only [Act.put, List.setIfInBounds_toArray, List.set_cons_zero, List.set_cons_succ, i64_w, i32_w]
                  rfl
                refine pure_ (i := 5) (N := some 43) (v := ?_) (a' := ?_) #[true, true, true, true, true, true, false, true, false] rfl rfl (any_of HT_.out (by kernel_rfl)) (fun _ _ _ h => h) (Or.inl ⟨by rfl, ?_⟩) ?_ ?_
                rotate_left
                · intro w'
                  go_simp
                  with_reducible rfl
                rotate_left
                · simp only [Act.put, List.setIfInBounds_toArray, List.set_cons_zero, List.set_cons_succ, i64_w, i32_w]
                  rfl
                refine pure_ (i := 6) (N := some 44) (v := ?_) (a' := ?_) #[true, true, true, true, true, true, true, true, false] rfl rfl (any_of HT_.out (by kernel_rfl)) (fun _ _ _ h => h) (Or.inl ⟨by rfl, ?_⟩) ?_ ?_
                rotate_left
                · intro w'
                  go_simp
                  with_reducible rfl
                rotate_left
                · simp only [Act.put, List.setIfInBounds_toArray, List.set_cons_zero, List.set_cons_succ, i64_w, i32_w]
                  rfl
                refine pure_ (i := 8) (N := some 9) (v := ?_) (a' := ?_) #[true, true, true, true, true, true, true, true, true] rfl rfl (any_of HT_.out (by kernel_rfl)) (fun _ _ _ h => h) (Or.inl ⟨by rfl, ?_⟩) ?_ ?_
                rotate_left
                · intro w'
                  go_simp
                  with_reducible rfl
                rotate_left
                · simp only [Act.put, List.setIfInBounds_toArray, List.set_cons_zero, List.set_cons_succ, i64_w, i32_w]
                  rfl
                refine done_ (done_of HT_.out (by kernel_rfl)) ?_
                have hnb44 := NB216_215.out
                have hnc44 := NB215_216.out
                have hcz45_0 : w43.cell? ⟨gb216, 0, none⟩ = some (.string x217000_1) := (blk_cell BK216.out 0).trans rfl
                have hcz45_1 : w43.cell? ⟨gb216, 1, none⟩ = some (.int .i64 (Int.tmod (wrap64 (Int.tdiv (wrap64 (bt a0 6)) 2)) 16)) := (blk_cell BK216.out 1).trans rfl
                have hfz45_0 := blk_frozen BK216.out 0
                have hfz45_1 := blk_frozen BK216.out 1
                try go_wp2_with (first | ((with_reducible refine gate_callee (f := 39) rfl ?_); refine goesL_ (some 46) rfl rfl Tryd.func39 (by kernel_rfl) rfl #[.agg #[.string x217000_1, .int .i64 (Int.tmod (wrap64 (Int.tdiv (wrap64 (bt a0 6)) 2)) 16)]] rfl (by (try simp only [List.map_toArray, List.map_cons, List.map_nil]); first | done | rfl | (simp only [List.length_drop, List.length_take]; rfl)) ?_; (with_reducible refine (squelchref04_Right.calls k1 x217000_1 (Int.tmod (wrap64 (Int.tdiv (wrap64 (bt a0 6)) 2)) 16) false _ A24.out).mono ?_); rintro e w46 ⟨rfl, hb⟩; refine ⟨_, rfl, ?_⟩; have n0_ := Aside0.mk (blk_below (g := gb215) (o := .cells #[.string (⟨#[]⟩ : ByteArray), .int .i64 0] 23 (0, 0)) (by (with_reducible repeat (first | refine blk_drewN ?_ _ | refine blk_drew ?_ | refine blk_alloc ?_ _)); exact BK215.out) hb); have n1_ := Aside0.mk (blk_below (g := gb216) (o := .cells #[.string x217000_1, .int .i64 (Int.tmod (wrap64 (Int.tdiv (wrap64 (bt a0 6)) 2)) 16)] 23 (0, 0)) (by (with_reducible repeat (first | refine blk_drewN ?_ _ | refine blk_drew ?_ | refine blk_alloc ?_ _)); exact BK216.out) hb); have n2_ := Aside0.mk (below_step (by repeat (first | (with_reducible first | exact HB.out | apply below_alloc | apply pw_below_drewN | apply below_drew1 | refine below_set ?_ GE215.out | refine below_set ?_ GE216.out) | exact HB.out)) hb); clear BK215; clear BK216; clear HB; have BK215 := n0_; have BK216 := n1_; have HB := n2_; clear n0_ n1_ n2_; (try clear hb); (try clear hb2); (try clear hk); (try clear hi); have hcz47_0 : w46.cell? ⟨gb215, 0, none⟩ = some (.string (⟨#[]⟩ : ByteArray)) := (blk_cell BK215.out 0).trans rfl; have hcz47_1 : w46.cell? ⟨gb215, 1, none⟩ = some (.int .i64 0) := (blk_cell BK215.out 1).trans rfl; have hfz47_0 := blk_frozen BK215.out 0; have hfz47_1 := blk_frozen BK215.out 1))
                refine bodyPost_ret (results_list (rs := [.cell 2 23, .tmp 3, .tmp 4, .tmp 5]) rfl (by simp) (.cell gb215 23 #[.string (⟨#[]⟩ : ByteArray), .int .i64 0] (0, 0) _ rfl (by (with_reducible repeat (first | refine blk_drewN ?_ _ | refine blk_drew ?_ | refine blk_alloc ?_ _)); refine blk_put (cs := #[.string (⟨#[]⟩ : ByteArray), .int .i64 0]) ?_ 1 _ rfl; (with_reducible repeat (first | refine blk_drewN ?_ _ | refine blk_drew ?_ | refine blk_alloc ?_ _)); refine blk_put (cs := #[.string (⟨#[]⟩ : ByteArray), .int .i64 0]) ?_ 0 _ rfl; (with_reducible repeat (first | refine blk_drewN ?_ _ | refine blk_drew ?_ | refine blk_alloc ?_ _)); exact BK215.out) Tryd.underlying23 rfl (by kernel_rfl) (.tmp (.tmp (.tmp .nil))))) rfl ?_
                exact ⟨by first | rfl | (simp [errW_none, errW_some] <;> rfl) | (simp [*, errW_none, errW_some] <;> rfl), by repeat (first | (with_reducible first | exact HB.out | apply below_alloc | apply pw_below_drewN | apply below_drew1 | refine below_set ?_ GE215.out | refine below_set ?_ GE216.out) | exact HB.out)⟩
            · rw [if_neg c21] at H
              exact absurd H (by simp)
    · rw [if_neg c3] at H
      exact absurd H (by simp)
  · rw [if_neg c2] at H
    have c2b0 : ((a0.size : Int) == 7) = false := beq_eq_false_iff_ne.mpr c2
    have c2b1 : ((a0.size : Int) != 7) = true := bne_iff_ne.mpr c2
    simp only [Option.some.injEq, Prod.mk.injEq] at H
    obtain ⟨rfl, rfl, rfl, rfl, rfl⟩ := H
    go_enter Tryd.func55, Tryd.ntmps55
    go_wp2_with (first | ((with_reducible refine gate_dst (N := 2) rfl ?_); refine box_event ?hg (N := 2) ?hd (cs := #[.string (⟨#[]⟩ : ByteArray), .int .i64 0]) (t := 23) ?hr ?_; (case hd => rfl); (case hg => rfl); (case hr => first | (go_simp; done) | (go_simp; rfl)); intro gb215 hg w48 hbox hb; have n0_ := Aside0.mk (below_step (by repeat (first | (with_reducible first | exact HB.out | apply below_alloc | apply pw_below_drewN | apply below_drew1) | exact HB.out)) hb); have n1_ := Aside0.mk (hbox); have n2_ := Aside0.mk ((by rw [hg]; exact (below_size (by repeat (first | (with_reducible first | exact HB.out | apply below_alloc | apply pw_below_drewN | apply below_drew1) | exact HB.out))) : w.heap.size ≤ gb215)); have n3_ := Aside0.mk ((by rw [hg]; exact (below_size (by repeat (first | (with_reducible first | exact HB.out | apply below_alloc | apply pw_below_drewN | apply below_drew1) | exact HB.out))) : w.heap.size ≤ gb215)); clear HB; have HB := n0_; have BK215 := n1_; have GW215 := n2_; have GE215 := n3_; clear n0_ n1_ n2_ n3_; clear hb hbox hg; have hcz49_0 : w48.cell? ⟨gb215, 0, none⟩ = some (.string (⟨#[]⟩ : ByteArray)) := (blk_cell BK215.out 0).trans rfl; have hcz49_1 : w48.cell? ⟨gb215, 1, none⟩ = some (.int .i64 0) := (blk_cell BK215.out 1).trans rfl; have hfz49_0 := blk_frozen BK215.out 0; have hfz49_1 := blk_frozen BK215.out 1))
    refine bodyPost_ret (results_list (rs := [.cell 2 23, .tmp 3, .tmp 4, .tmp 5]) rfl (by simp) (.cell gb215 23 #[.string (⟨#[]⟩ : ByteArray), .int .i64 0] (0, 0) _ rfl (by (with_reducible repeat (first | refine blk_drewN ?_ _ | refine blk_drew ?_ | refine blk_alloc ?_ _)); refine blk_put (cs := #[.string (⟨#[]⟩ : ByteArray), .int .i64 0]) ?_ 1 _ rfl; (with_reducible repeat (first | refine blk_drewN ?_ _ | refine blk_drew ?_ | refine blk_alloc ?_ _)); refine blk_put (cs := #[.string (⟨#[]⟩ : ByteArray), .int .i64 0]) ?_ 0 _ rfl; (with_reducible repeat (first | refine blk_drewN ?_ _ | refine blk_drew ?_ | refine blk_alloc ?_ _)); exact BK215.out) Tryd.underlying23 rfl (by kernel_rfl) (.tmp (.tmp (.tmp .nil))))) rfl ?_
    exact ⟨by first | rfl | (simp [errW_none, errW_some] <;> rfl) | (simp [*, errW_none, errW_some] <;> rfl), by repeat (first | (with_reducible first | exact HB.out | apply below_alloc | apply pw_below_drewN | apply below_drew1 | refine below_set ?_ GE215.out) | exact HB.out)⟩

end Go.Proofs.YtpmieapgbdbabaaDoor.QAll
