/- The row of the law XidPuts, out of its walks and its plain law. -/
import Derived.Test.YtpmieapgbdbabaaMXidPuts0
import Derived.Test.YtpmieapgbdbabaaMXidPuts1
import Derived.Maps.OwnSet
import Derived.Maps.Views
import Derived.Test.YtpmieapgbdbabaaMXidPuts2
import Derived.Test.YtpmieapgbdbabaaRows
import Derived.WalkKit
import Derived.ProofKit
import Derived.OpenShut
import Derived.ShutString
import Derived.ChangeOld
import Derived.Below
import Derived.SizedLaws
import Derived.Lib.SmallJoins
import Derived.Deep.Slices
import Derived.Deep.Fields
import Derived.ChangeSame
section
/- Walks, written by a program of this session (wip/pp): a Go function comes to what the Lean function beside it tells. -/
namespace Go.Proofs.Ytpmieapgbdbabaa.QXidPuts
open Go.RowKit Go.Proofs.YtpmieapgbdbabaaW.PrintWords Go.Proofs.YtpmieapgbdbabaaW.PrintLast Go.Proofs.YtpmieapgbdbabaaW.PrintMore
attribute [local go_sem] max2_int min2_int max_two min_two max_three min_three max_four min_four
set_option linter.unusedVariables false
set_option linter.unusedSimpArgs false

mutual
def squelchref08_Put.j0 : Nat → Int → Bool → Bool → Int → Int → Int → Int → Option (ByteArray)
 | 0, _, _, _, _, _, _, _ => none
 | k + 1, x3, x161000, x161001, x161002, x161003, x161004, x161005 => if x161001 = true then (squelchref08_Put.j1 k (wrap64 (x3 + 4)) x161000 x161001 x161002 x161003 x161004 x161005) else (squelchref08_Put.j1 k x3 x161000 x161001 x161002 x161003 x161004 x161005)
def squelchref08_Put.j1 : Nat → Int → Bool → Bool → Int → Int → Int → Int → Option (ByteArray)
 | 0, _, _, _, _, _, _, _ => none
 | k + 1, x3, x161000, x161001, x161002, x161003, x161004, x161005 => (some (([130, 128, 0, 18, 3, 2, x3, 0, 6, 2, wrap64 (Int.tdiv x161002 256), Int.tmod x161002 256, 8, 1, x161003, 9, 1, x161004, 10, 1, x161005] : List Int) : List Int)).bind fun y161 => (if 3 < (y161.length : Int) then (squelchref08_Put.l0 k (y161.set (3 : Int).toNat (wrap64 ((y161.length : Int) - 4))) (⟨#[]⟩ : ByteArray) 0) else (none))
def squelchref08_Put.l0 : Nat → List Int → ByteArray → Int → Option (ByteArray)
 | 0, _, _, _ => none
 | k + 1, x4, x5, x6 => if x6 < (x4.length : Int) then (if 0 ≤ x6 then ((some (([(rd x4 x6) % 256] : List Int) : List Int)).bind fun y166 => (if x5.size + (strOfNums y166).size ≤ 9223372036854775807 then (squelchref08_Put.l0 k x4 (x5 ++ (strOfNums y166)) (wrap64 (x6 + 1))) else (none))) else (none)) else (some x5)
end
def squelchref08_Put.f (k : Nat) (a0_0 : Bool) (a0_1 : Bool) (a0_2 : Int) (a0_3 : Int) (a0_4 : Int) (a0_5 : Int) : Option (ByteArray) := if a0_0 = true then (squelchref08_Put.j0 k (0 + 2) a0_0 a0_1 a0_2 a0_3 a0_4 a0_5) else (squelchref08_Put.j0 k 0 a0_0 a0_1 a0_2 a0_3 a0_4 a0_5)
set_option maxHeartbeats 8000000 in
set_option maxRecDepth 100000 in
theorem squelchref08_Put.calls (k : Nat) (a0_0 : Bool) (a0_1 : Bool) (a0_2 : Int) (a0_3 : Int) (a0_4 : Int) (a0_5 : Int) (r : ByteArray) (w : World) (h : squelchref08_Put.f k a0_0 a0_1 a0_2 a0_3 a0_4 a0_5 = some r) :
  Calls Try.prog 14 #[.agg #[.bool a0_0, .bool a0_1, .int .i64 a0_2, .int .i64 a0_3, .int .i64 a0_4, .int .i64 a0_5]] w fun e w' => e = .returned (.string r) ∧ Below w.heap.size w w' := by
 have hu29 := Try.underlying29
 have HB := Aside0.mk (Below.refl w.heap.size w)
 have H : (if a0_0 = true then (squelchref08_Put.j0 k (0 + 2) a0_0 a0_1 a0_2 a0_3 a0_4 a0_5) else (squelchref08_Put.j0 k 0 a0_0 a0_1 a0_2 a0_3 a0_4 a0_5)) = some r := h
 clear h
 have HC2 := Aside0.mk H
 clear H
 go_enter Try.func14, Try.ntmps14
 go_upto_if 8 with (first | ((with_reducible refine gate_dst (N := 1) rfl ?_); refine box_event ?hg (N := 1) ?hd (cs := #[.bool a0_0, .bool a0_1, .int .i64 a0_2, .int .i64 a0_3, .int .i64 a0_4, .int .i64 a0_5]) (t := 29) ?hr ?_; (case hd => rfl); (case hg => rfl); (case hr => first | (go_simp; done) | (go_simp; rfl)); intro gb160 hg w3 hbox hb; have n0_ := Aside0.mk (below_step (by repeat (first | (with_reducible first | exact HB.out | apply below_alloc | apply pw_below_drewN | apply below_drew1) | exact HB.out)) hb); have n1_ := Aside0.mk (hbox); have n2_ := Aside0.mk ((by rw [hg]; exact (below_size (by repeat (first | (with_reducible first | exact HB.out | apply below_alloc | apply pw_below_drewN | apply below_drew1) | exact HB.out))) : w.heap.size ≤ gb160)); have n3_ := Aside0.mk ((by rw [hg]; exact (below_size (by repeat (first | (with_reducible first | exact HB.out | apply below_alloc | apply pw_below_drewN | apply below_drew1) | exact HB.out))) : w.heap.size ≤ gb160)); clear HB; have HB := n0_; have BK160 := n1_; have GW160 := n2_; have GE160 := n3_; clear n0_ n1_ n2_ n3_; clear hb hbox hg; have hcz4_0 : w3.cell? ⟨gb160, 0, none⟩ = some (.bool a0_0) := (blk_cell BK160.out 0).trans rfl; have hcz4_1 : w3.cell? ⟨gb160, 1, none⟩ = some (.bool a0_1) := (blk_cell BK160.out 1).trans rfl; have hcz4_2 : w3.cell? ⟨gb160, 2, none⟩ = some (.int .i64 a0_2) := (blk_cell BK160.out 2).trans rfl; have hcz4_3 : w3.cell? ⟨gb160, 3, none⟩ = some (.int .i64 a0_3) := (blk_cell BK160.out 3).trans rfl; have hcz4_4 : w3.cell? ⟨gb160, 4, none⟩ = some (.int .i64 a0_4) := (blk_cell BK160.out 4).trans rfl; have hcz4_5 : w3.cell? ⟨gb160, 5, none⟩ = some (.int .i64 a0_5) := (blk_cell BK160.out 5).trans rfl; have hfz4_0 := blk_frozen BK160.out 0; have hfz4_1 := blk_frozen BK160.out 1; have hfz4_2 := blk_frozen BK160.out 2; have hfz4_3 := blk_frozen BK160.out 3; have hfz4_4 := blk_frozen BK160.out 4; have hfz4_5 := blk_frozen BK160.out 5))
 (try simp only [Act.put, List.setIfInBounds_toArray, List.set_cons_zero, List.set_cons_succ])
 go_cut [3] (fun v3 wc => ∃ (kq : Nat) (x3_1 : Int), v3 = .int .i64 x3_1 ∧ Aside0 (squelchref08_Put.j0 kq x3_1 a0_0 a0_1 a0_2 a0_3 a0_4 a0_5 = some r) ∧ Aside0 (kq ≤ k) ∧ Aside0 (wc.heap[gb160]? = some (.cells #[.bool a0_0, .bool a0_1, .int .i64 a0_2, .int .i64 a0_3, .int .i64 a0_4, .int .i64 a0_5] 29 (0, 0))) ∧ Aside0 (Below w.heap.size w wc))
 case first =>
  have H := HC2.out
  clear HC2
  by_cases c5 : a0_0 = true
  ·subst c5
   have H1 : (squelchref08_Put.j0 k (0 + 2) true a0_1 a0_2 a0_3 a0_4 a0_5) = some r := by rw [if_pos rfl] at H; exact H
   clear H
   have H := H1
   clear H1
   have H' := Aside0.mk H
   clear H
   go_wp2
   go_meet
   case rel => exact ⟨_, (0 + 2), (by first | rfl | (simp; done) | (simp [*]; done) | (simp; exact (fun l : List UInt8 => (by cases l <;> rfl : l.isEmpty = !(l != []))) _)), H', ⟨by first | omega | exact Nat.le_refl _⟩, ⟨by (with_reducible repeat (first | refine blk_drewN ?_ _ | refine blk_drew ?_ | refine blk_alloc ?_ _)); exact BK160.out⟩, ⟨by repeat (first | (with_reducible first | exact HB.out | apply below_alloc | apply pw_below_drewN | apply below_drew1 | refine below_set ?_ GE160.out) | exact HB.out)⟩⟩
  ·replace c5 := Bool.eq_false_iff.mpr c5
   subst c5
   have H1 : (squelchref08_Put.j0 k 0 false a0_1 a0_2 a0_3 a0_4 a0_5) = some r := by rw [if_neg (show ¬ (false = true) by decide)] at H; exact H
   clear H
   have H := H1
   clear H1
   have H' := Aside0.mk H
   clear H
   go_wp2
   go_meet
   case rel => exact ⟨_, (0), (by first | rfl | (simp; done) | (simp [*]; done) | (simp; exact (fun l : List UInt8 => (by cases l <;> rfl : l.isEmpty = !(l != []))) _)), H', ⟨by first | omega | exact Nat.le_refl _⟩, ⟨by (with_reducible repeat (first | refine blk_drewN ?_ _ | refine blk_drew ?_ | refine blk_alloc ?_ _)); exact BK160.out⟩, ⟨by repeat (first | (with_reducible first | exact HB.out | apply below_alloc | apply pw_below_drewN | apply below_drew1 | refine below_set ?_ GE160.out) | exact HB.out)⟩⟩
 case rest =>
  clear HC2
  try clear c1
  try clear p2
  try clear c5
  try clear hcz4_0
  try clear hcz4_1
  try clear hcz4_2
  try clear hcz4_3
  try clear hcz4_4
  try clear hcz4_5
  try clear hfz4_0
  try clear hfz4_1
  try clear hfz4_2
  try clear hfz4_3
  try clear hfz4_4
  try clear hfz4_5
  obtain ⟨kq, x3_1, rfl, HA, HJ1, BK160, HB⟩ := hcut
  cases kq with
  | zero => exact absurd HA.out (by simp [squelchref08_Put.j0])
  | succ kj1 =>
   have H := HA.out
   clear HA
   simp only [squelchref08_Put.j0] at H
   have HC6 := Aside0.mk H
   clear H
   have hcz7_0 : wc.cell? ⟨gb160, 0, none⟩ = some (.bool a0_0) := (blk_cell BK160.out 0).trans rfl
   have hcz7_1 : wc.cell? ⟨gb160, 1, none⟩ = some (.bool a0_1) := (blk_cell BK160.out 1).trans rfl
   have hcz7_2 : wc.cell? ⟨gb160, 2, none⟩ = some (.int .i64 a0_2) := (blk_cell BK160.out 2).trans rfl
   have hcz7_3 : wc.cell? ⟨gb160, 3, none⟩ = some (.int .i64 a0_3) := (blk_cell BK160.out 3).trans rfl
   have hcz7_4 : wc.cell? ⟨gb160, 4, none⟩ = some (.int .i64 a0_4) := (blk_cell BK160.out 4).trans rfl
   have hcz7_5 : wc.cell? ⟨gb160, 5, none⟩ = some (.int .i64 a0_5) := (blk_cell BK160.out 5).trans rfl
   have hfz7_0 := blk_frozen BK160.out 0
   have hfz7_1 := blk_frozen BK160.out 1
   have hfz7_2 := blk_frozen BK160.out 2
   have hfz7_3 := blk_frozen BK160.out 3
   have hfz7_4 := blk_frozen BK160.out 4
   have hfz7_5 := blk_frozen BK160.out 5
   go_upto_if 12 with (fail)
   go_cut [3] (fun v3 wc => ∃ (kq : Nat) (x3_5 : Int), v3 = .int .i64 x3_5 ∧ Aside0 (squelchref08_Put.j1 kq x3_5 a0_0 a0_1 a0_2 a0_3 a0_4 a0_5 = some r) ∧ Aside0 (kq ≤ kj1) ∧ Aside0 (wc.heap[gb160]? = some (.cells #[.bool a0_0, .bool a0_1, .int .i64 a0_2, .int .i64 a0_3, .int .i64 a0_4, .int .i64 a0_5] 29 (0, 0))) ∧ Aside0 (Below w.heap.size w wc))
   case first =>
    have H := HC6.out
    clear HC6
    by_cases c8 : a0_1 = true
    ·subst c8
     have H1 : (squelchref08_Put.j1 kj1 (wrap64 (x3_1 + 4)) a0_0 true a0_2 a0_3 a0_4 a0_5) = some r := by rw [if_pos rfl] at H; exact H
     clear H
     have H := H1
     clear H1
     have H' := Aside0.mk H
     clear H
     go_wp2
     go_meet
     case rel => exact ⟨_, (wrap64 (x3_1 + 4)), (by first | rfl | (simp; done) | (simp [*]; done) | (simp; exact (fun l : List UInt8 => (by cases l <;> rfl : l.isEmpty = !(l != []))) _)), H', ⟨by have := HJ1.out; first | omega | exact Nat.le_refl _⟩, ⟨by (with_reducible repeat (first | refine blk_drewN ?_ _ | refine blk_drew ?_ | refine blk_alloc ?_ _)); exact BK160.out⟩, ⟨by repeat (first | (with_reducible first | exact HB.out | apply below_alloc | apply pw_below_drewN | apply below_drew1 | refine below_set ?_ GE160.out) | exact HB.out)⟩⟩
    ·replace c8 := Bool.eq_false_iff.mpr c8
     subst c8
     have H1 : (squelchref08_Put.j1 kj1 x3_1 a0_0 false a0_2 a0_3 a0_4 a0_5) = some r := by rw [if_neg (show ¬ (false = true) by decide)] at H; exact H
     clear H
     have H := H1
     clear H1
     have H' := Aside0.mk H
     clear H
     go_wp2
     go_meet
     case rel => exact ⟨_, (x3_1), (by first | rfl | (simp; done) | (simp [*]; done) | (simp; exact (fun l : List UInt8 => (by cases l <;> rfl : l.isEmpty = !(l != []))) _)), H', ⟨by have := HJ1.out; first | omega | exact Nat.le_refl _⟩, ⟨by (with_reducible repeat (first | refine blk_drewN ?_ _ | refine blk_drew ?_ | refine blk_alloc ?_ _)); exact BK160.out⟩, ⟨by repeat (first | (with_reducible first | exact HB.out | apply below_alloc | apply pw_below_drewN | apply below_drew1 | refine below_set ?_ GE160.out) | exact HB.out)⟩⟩
   case rest =>
    clear HC6
    try clear c1
    try clear p2
    try clear c5
    try clear p6
    try clear c8
    try clear hcz4_0
    try clear hcz4_1
    try clear hcz4_2
    try clear hcz4_3
    try clear hcz4_4
    try clear hcz4_5
    try clear hcz7_0
    try clear hcz7_1
    try clear hcz7_2
    try clear hcz7_3
    try clear hcz7_4
    try clear hcz7_5
    try clear hfz4_0
    try clear hfz4_1
    try clear hfz4_2
    try clear hfz4_3
    try clear hfz4_4
    try clear hfz4_5
    try clear hfz7_0
    try clear hfz7_1
    try clear hfz7_2
    try clear hfz7_3
    try clear hfz7_4
    try clear hfz7_5
    try clear p2
    obtain ⟨kq, x3_5, rfl, HA, HJ5, BK160, HB⟩ := hcut
    cases kq with
    | zero => exact absurd HA.out (by simp [squelchref08_Put.j1])
    | succ kj5 =>
     have H := HA.out
     clear HA
     simp only [squelchref08_Put.j1] at H
     obtain ⟨y161, hy161⟩ : ∃ y_ : List Int, y_ = (([130, 128, 0, 18, 3, 2, x3_5, 0, 6, 2, wrap64 (Int.tdiv a0_2 256), Int.tmod a0_2 256, 8, 1, a0_3, 9, 1, a0_4, 10, 1, a0_5] : List Int)) := ⟨_, rfl⟩
     replace H : (if 3 < (y161.length : Int) then (squelchref08_Put.l0 kj5 (y161.set (3 : Int).toNat (wrap64 ((y161.length : Int) - 4))) (⟨#[]⟩ : ByteArray) 0) else (none)) = some r := by first | (rw [hy161]; with_reducible exact H) | (have H2_ := (Option.bind_some _ _).symm.trans H; rw [hy161]; with_reducible exact H2_) | (have H2_ := (Option.bind_some _ _).symm.trans H; with_reducible exact H2_) | with_reducible exact H | (rw [hy161]; exact H) | exact H
     have Ny161 := Aside0.mk hy161
     clear hy161
     by_cases c9 : 3 < (y161.length : Int)
     ·rw [if_pos c9] at H
      have c9b0 : decide (3 < (y161.length : Int)) = true := decide_eq_true c9
      have c9b1 : decide (3 < y161.length) = true := decide_eq_true (by omega)
      clear c9
      obtain ⟨y164, hy164⟩ : ∃ y_ : List Int, y_ = (y161.set (3 : Int).toNat (wrap64 ((y161.length : Int) - 4))) := ⟨_, rfl⟩
      replace H : (squelchref08_Put.l0 kj5 y164 (⟨#[]⟩ : ByteArray) 0) = some r := by first | (rw [hy164]; with_reducible exact H) | (have H2_ := (Option.bind_some _ _).symm.trans H; rw [hy164]; with_reducible exact H2_) | (have H2_ := (Option.bind_some _ _).symm.trans H; with_reducible exact H2_) | with_reducible exact H | (rw [hy164]; exact H) | exact H
      have Ny164 := Aside0.mk hy164
      clear hy164
      have H' := Aside0.mk H
      clear H
      have hcz11_0 : wc.cell? ⟨gb160, 0, none⟩ = some (.bool a0_0) := (blk_cell BK160.out 0).trans rfl
      have hcz11_1 : wc.cell? ⟨gb160, 1, none⟩ = some (.bool a0_1) := (blk_cell BK160.out 1).trans rfl
      have hcz11_2 : wc.cell? ⟨gb160, 2, none⟩ = some (.int .i64 a0_2) := (blk_cell BK160.out 2).trans rfl
      have hcz11_3 : wc.cell? ⟨gb160, 3, none⟩ = some (.int .i64 a0_3) := (blk_cell BK160.out 3).trans rfl
      have hcz11_4 : wc.cell? ⟨gb160, 4, none⟩ = some (.int .i64 a0_4) := (blk_cell BK160.out 4).trans rfl
      have hcz11_5 : wc.cell? ⟨gb160, 5, none⟩ = some (.int .i64 a0_5) := (blk_cell BK160.out 5).trans rfl
      have hfz11_0 := blk_frozen BK160.out 0
      have hfz11_1 := blk_frozen BK160.out 1
      have hfz11_2 := blk_frozen BK160.out 2
      have hfz11_3 := blk_frozen BK160.out 3
      have hfz11_4 := blk_frozen BK160.out 4
      have hfz11_5 := blk_frozen BK160.out 5
      go_wp2_with (first | ((with_reducible refine gate_dst (N := 28) rfl ?_); refine Kd.R_lit (Kd.int .i64) _ 3 ?hg (N := 28) ?hd (xs := ([130, 128, 0, 18, 3, 2, x3_5, 0, 6, 2, wrap64 (Int.tdiv a0_2 256), Int.tmod a0_2 256, 8, 1, a0_3, 9, 1, a0_4, 10, 1, a0_5] : List Int)) (inner := [.int .i64 130, .int .i64 128, .int .i64 0, .int .i64 18, .int .i64 3, .int .i64 2, .int .i64 x3_5, .int .i64 0, .int .i64 6, .int .i64 2, .int .i64 (wrap64 (Int.tdiv a0_2 256)), .int .i64 (Int.tmod a0_2 256), .int .i64 8, .int .i64 1, .int .i64 a0_3, .int .i64 9, .int .i64 1, .int .i64 a0_4, .int .i64 10, .int .i64 1, .int .i64 a0_5]) (ok := fun _ => True) (okp := fun _ => True) ?hr ?hp (fun _ hk => hk) trivial (Below.refl _ _) (Nat.le_refl _) (by simp) ?_; (case hd => rfl); (case hg => rfl); (case hr => first | (go_simp; done) | (go_simp; rfl)); (case hp => exact (Reps.one (show Kd.M (Kd.int .i64) _ _ _ 130 [.int .i64 130] from rfl) (Reps.one (show Kd.M (Kd.int .i64) _ _ _ 128 [.int .i64 128] from rfl) (Reps.one (show Kd.M (Kd.int .i64) _ _ _ 0 [.int .i64 0] from rfl) (Reps.one (show Kd.M (Kd.int .i64) _ _ _ 18 [.int .i64 18] from rfl) (Reps.one (show Kd.M (Kd.int .i64) _ _ _ 3 [.int .i64 3] from rfl) (Reps.one (show Kd.M (Kd.int .i64) _ _ _ 2 [.int .i64 2] from rfl) (Reps.one (show Kd.M (Kd.int .i64) _ _ _ x3_5 [.int .i64 x3_5] from rfl) (Reps.one (show Kd.M (Kd.int .i64) _ _ _ 0 [.int .i64 0] from rfl) (Reps.one (show Kd.M (Kd.int .i64) _ _ _ 6 [.int .i64 6] from rfl) (Reps.one (show Kd.M (Kd.int .i64) _ _ _ 2 [.int .i64 2] from rfl) (Reps.one (show Kd.M (Kd.int .i64) _ _ _ (wrap64 (Int.tdiv a0_2 256)) [.int .i64 (wrap64 (Int.tdiv a0_2 256))] from rfl) (Reps.one (show Kd.M (Kd.int .i64) _ _ _ (Int.tmod a0_2 256) [.int .i64 (Int.tmod a0_2 256)] from rfl) (Reps.one (show Kd.M (Kd.int .i64) _ _ _ 8 [.int .i64 8] from rfl) (Reps.one (show Kd.M (Kd.int .i64) _ _ _ 1 [.int .i64 1] from rfl) (Reps.one (show Kd.M (Kd.int .i64) _ _ _ a0_3 [.int .i64 a0_3] from rfl) (Reps.one (show Kd.M (Kd.int .i64) _ _ _ 9 [.int .i64 9] from rfl) (Reps.one (show Kd.M (Kd.int .i64) _ _ _ 1 [.int .i64 1] from rfl) (Reps.one (show Kd.M (Kd.int .i64) _ _ _ a0_4 [.int .i64 a0_4] from rfl) (Reps.one (show Kd.M (Kd.int .i64) _ _ _ 10 [.int .i64 10] from rfl) (Reps.one (show Kd.M (Kd.int .i64) _ _ _ 1 [.int .i64 1] from rfl) (Reps.one (show Kd.M (Kd.int .i64) _ _ _ a0_5 [.int .i64 a0_5] from rfl) (Reps.none _ _))))))))))))))))))))))); intro v162 w12 ho13 hb hg_ hnew_; clear hg_ hnew_; (first | rw [← Ny161.out] at ho13 | (simp only [Int.reduceToNat] at ho13; rw [← Ny161.out] at ho13)); have n0_ := Aside0.mk (Kd.R_lower ho13 (below_size (by repeat (first | (with_reducible first | exact HB.out | apply below_alloc | apply pw_below_drewN | apply below_drew1 | refine below_set ?_ GE160.out) | exact HB.out)))); have n1_ := Aside0.mk (blk_below (g := gb160) (o := .cells #[.bool a0_0, .bool a0_1, .int .i64 a0_2, .int .i64 a0_3, .int .i64 a0_4, .int .i64 a0_5] 29 (0, 0)) (by (with_reducible repeat (first | refine blk_drewN ?_ _ | refine blk_drew ?_ | refine blk_alloc ?_ _)); exact BK160.out) hb); have n2_ := Aside0.mk (below_step (by repeat (first | (with_reducible first | exact HB.out | apply below_alloc | apply pw_below_drewN | apply below_drew1 | refine below_set ?_ GE160.out) | exact HB.out)) hb); clear BK160; clear HB; have HO163 := n0_; have BK160 := n1_; have HB := n2_; clear n0_ n1_ n2_; clear hb ho13; obtain ⟨Ao14, co14, eo14⟩ := Kd.R_slice HO163.out; subst eo14; have p10 : 0 ≤ (3 : Int) := (by omega); have q10 : (3 : Int) < ((y161.length : Int) : Int) := of_decide_eq_true (by first | (with_reducible assumption) | assumption); have qi10 : (3 < y161.length) = True := eq_true (by omega); obtain ⟨go10, co10, eo10, gb10, gl10, cl10, HG10⟩ := Kd.R_form HO163.out (by omega); (first | cases eo10 | (injection eo10 with ea_ en_ ec_; (first | subst ea_ | (injection ea_ with ea_; subst ea_)); subst ec_; clear en_)); have GB10 := Aside0.mk gb10; have GG10 := Aside0.mk HG10; clear gb10 gl10 HG10; obtain ⟨hx10_0, hf10_0⟩ := Kd.R_celln 0 HO163.out (3 : Int) p10 q10; (try rw [show ((3 : Int)).toNat = 3 from rfl] at hx10_0); (try simp only [Nat.reduceMul, Nat.zero_mul, Nat.zero_add, Nat.reduceAdd] at hx10_0); (try rw [show ((3 : Int)).toNat = 3 from rfl] at hf10_0); (try simp only [Nat.reduceMul, Nat.zero_mul, Nat.zero_add, Nat.reduceAdd] at hf10_0); replace p10 := eq_true p10; replace q10 := eq_true q10; obtain ⟨hy15_, hz15_⟩ := Kd.R_celln 0 HO163.out (3 : Int) (by omega) (of_decide_eq_true (by first | (with_reducible assumption) | assumption)); (try simp only [Int.reduceToNat, Int.toNat_zero, Int.toNat_ofNat, Nat.reduceMul, Nat.zero_mul, Nat.zero_add] at hy15_ hz15_); (try rw [show ((3 : Int)).toNat = 3 from rfl] at hy15_); (try rw [show ((3 : Int)).toNat = 3 from rfl] at hz15_); have HP15 := Kd.R_putg HO163.out (3 : Int) (wrap64 ((y161.length : Int) - 4))) | ((with_reducible refine gate_store (t := 3) (p := 33) rfl ?_); refine store_event (t := 3) (p := 33) (v := ?vo_w16) (w1 := (w12.setCell ⟨go10, (3 : Int).toNat, none⟩ (.int .i64 (wrap64 ((y161.length : Int) - 4))))) ?hg ?ho ?hn ?hr ?_; (case ho => rfl); (case hg => rfl); (case hn => rfl); (case hr => first | (go_simp; done) | (go_simp; rfl)); intro w16 hw; have hg : w12.grownBy w16 (some go10) := (by rw [hw]; exact HP15.2); have hp_ : Kd.R (Kd.int .i64) 3 w16 w.heap.size (fun _ => True) (.slice (some ⟨go10, 0, none⟩) y161.length co14) y164 := (by rw [hw, Ny164.out]; exact HP15.1); clear HP15; have n0_ := Aside0.mk (blk_grown (g := gb160) (o := .cells #[.bool a0_0, .bool a0_1, .int .i64 a0_2, .int .i64 a0_3, .int .i64 a0_4, .int .i64 a0_5] 29 (0, 0)) (by (with_reducible repeat (first | refine blk_drewN ?_ _ | refine blk_drew ?_ | refine blk_alloc ?_ _)); exact BK160.out) hg (Kd.R_ne HO163.out BK160.out (by decide))); have n1_ := Aside0.mk (hp_); have n2_ := Aside0.mk ((by rw [hw]; exact below_set (HB.out) GB10.out : Below w.heap.size w w16)); clear BK160; clear HO163; clear HB; have BK160 := n0_; have HO163 := n1_; have HB := n2_; clear n0_ n1_ n2_; clear hg hw hp_))
      go_loopg [5, 6] kj5 (fun kq v5 v6 w' => ∃ (x5_3 : ByteArray) (x6_3 : Int), v5 = .string x5_3 ∧ v6 = .int .i64 x6_3 ∧ Aside0 (squelchref08_Put.l0 kq y164 x5_3 x6_3 = some r) ∧ Aside0 (kq ≤ kj5) ∧ Aside0 (Kd.R (Kd.int .i64) 3 w' w.heap.size (fun _ => True) (.slice (some ⟨go10, 0, none⟩) y161.length co14) y164) ∧ Aside0 (w'.heap[gb160]? = some (.cells #[.bool a0_0, .bool a0_1, .int .i64 a0_2, .int .i64 a0_3, .int .i64 a0_4, .int .i64 a0_5] 29 (0, 0))) ∧ Aside0 (Below w.heap.size w w'))
      case atStart => exact ⟨((⟨#[]⟩ : ByteArray)), (0), (by first | rfl | (simp; done) | (simp [*]; done) | (simp; exact (fun l : List UInt8 => (by cases l <;> rfl : l.isEmpty = !(l != []))) _)), (by first | rfl | (simp; done) | (simp [*]; done) | (simp; exact (fun l : List UInt8 => (by cases l <;> rfl : l.isEmpty = !(l != []))) _)), H', ⟨Nat.le_refl _⟩, ⟨by (with_reducible repeat (first | apply Kd.R_alloc | apply Kd.R_drewN | apply Kd.R_drew)); exact HO163.out⟩, ⟨by (with_reducible repeat (first | refine blk_drewN ?_ _ | refine blk_drew ?_ | refine blk_alloc ?_ _)); exact BK160.out⟩, ⟨by repeat (first | (with_reducible first | exact HB.out | apply below_alloc | apply pw_below_drewN | apply below_drew1 | refine below_set ?_ GE160.out) | exact HB.out)⟩⟩
      case round =>
       clear H'
       try clear c1
       try clear p1
       try clear q1
       try clear hx1
       try clear qi1
       try clear hf1
       try clear p2
       try clear c5
       try clear p6
       try clear c8
       try clear c9
       try clear c9b0
       try clear c9b1
       try clear p10
       try clear q10
       try clear hx10
       try clear qi10
       try clear hf10
       try clear c14
       try clear hcz11_0
       try clear hcz11_1
       try clear hcz11_2
       try clear hcz11_3
       try clear hcz11_4
       try clear hcz11_5
       try clear hcz4_0
       try clear hcz4_1
       try clear hcz4_2
       try clear hcz4_3
       try clear hcz4_4
       try clear hcz4_5
       try clear hcz7_0
       try clear hcz7_1
       try clear hcz7_2
       try clear hcz7_3
       try clear hcz7_4
       try clear hcz7_5
       try clear hfz11_0
       try clear hfz11_1
       try clear hfz11_2
       try clear hfz11_3
       try clear hfz11_4
       try clear hfz11_5
       try clear hfz4_0
       try clear hfz4_1
       try clear hfz4_2
       try clear hfz4_3
       try clear hfz4_4
       try clear hfz4_5
       try clear hfz7_0
       try clear hfz7_1
       try clear hfz7_2
       try clear hfz7_3
       try clear hfz7_4
       try clear hfz7_5
       try clear hx10_0
       try clear p10
       try clear p2
       try clear p6
       try clear q10
       obtain ⟨x5_3, x6_3, rfl, rfl, HA, HK3, HO_4, BK160, HB⟩ := hrel
       have hl4_3 := (Kd.R_reads' HO_4.out).1
       rw [hl4_3] at HO_4
       (try simp only [hl4_3])
       (try simp only [hl4_3] at BK160)
       cases gk with
       | zero => exact absurd HA.out (by simp [squelchref08_Put.l0])
       | succ k3 =>
        have H := HA.out
        clear HA
        simp only [squelchref08_Put.l0] at H
        by_cases c17 : x6_3 < (y164.length : Int)
        ·rw [if_pos c17] at H
         have c17b0 : decide (x6_3 < (y164.length : Int)) = true := decide_eq_true c17
         clear c17
         by_cases c18 : 0 ≤ x6_3
         ·rw [if_pos c18] at H
          have c18b0 : decide (0 ≤ x6_3) = true := decide_eq_true c18
          clear c18
          obtain ⟨y166, hy166⟩ : ∃ y_ : List Int, y_ = (([(rd y164 x6_3) % 256] : List Int)) := ⟨_, rfl⟩
          replace H : (if x5_3.size + (strOfNums y166).size ≤ 9223372036854775807 then (squelchref08_Put.l0 k3 y164 (x5_3 ++ (strOfNums y166)) (wrap64 (x6_3 + 1))) else (none)) = some r := by first | (rw [hy166]; with_reducible exact H) | (have H2_ := (Option.bind_some _ _).symm.trans H; rw [hy166]; with_reducible exact H2_) | (have H2_ := (Option.bind_some _ _).symm.trans H; with_reducible exact H2_) | with_reducible exact H | (rw [hy166]; exact H) | exact H
          have Ny166 := Aside0.mk hy166
          clear hy166
          by_cases c19 : x5_3.size + (strOfNums y166).size ≤ 9223372036854775807
          ·rw [if_pos c19] at H
           have c19b0 := eq_true c19
           have c19b1 : decide (x5_3.size + (strOfNums y166).size ≤ 9223372036854775807) = true := decide_eq_true c19
           try have c19b2 : (9223372036854775807 < x5_3.size + (strOfNums y166).size) = False := eq_false (Nat.not_lt.2 c19)
           have H' := Aside0.mk H
           clear H
           have p165 : 0 ≤ (x6_3 : Int) := of_decide_eq_true (by first | (with_reducible assumption) | assumption)
           have q165 : x6_3 < (y164.length : Int) := of_decide_eq_true (by first | (with_reducible assumption) | assumption)
           obtain ⟨ad165, e165, hx165_0⟩ := Kd.at_int (Kd.R_reads' HO_4.out).2.2 x6_3 p165 q165
           obtain rfl : (⟨go10, 0, none⟩ : Addr) = ad165 := (by injection e165)
           (first | simp only [add_plain] at hx165_0 | simp only [add_at] at hx165_0 | simp only [Addr.add, Nat.zero_add] at hx165_0 | skip)
           replace p165 := eq_true p165
           replace q165 := eq_true q165
           go_wp2_with (first | ((with_reducible refine gate_dst (N := 46) rfl ?_); refine Kd.R_lit (Kd.int .u8) _ 5 ?hg (N := 46) ?hd (xs := ([(rd y164 x6_3) % 256] : List Int)) (inner := [.int .u8 ((rd y164 x6_3) % 256)]) (ok := fun _ => True) (okp := fun _ => True) ?hr ?hp (fun _ hk => hk) trivial (Below.refl _ _) (Nat.le_refl _) (by simp) ?_; (case hd => rfl); (case hg => rfl); (case hr => first | (go_simp; done) | (go_simp; rfl)); (case hp => exact (Reps.one (show Kd.M (Kd.int .u8) _ _ _ ((rd y164 x6_3) % 256) [.int .u8 ((rd y164 x6_3) % 256)] from rfl) (Reps.none _ _))); intro v167 w20 ho21 hb hg_ hnew_; clear hg_ hnew_; (first | rw [← Ny166.out] at ho21 | (simp only [Int.reduceToNat] at ho21; rw [← Ny166.out] at ho21)); have n0_ := Aside0.mk (Kd.R_below (by (with_reducible repeat (first | apply Kd.R_alloc | apply Kd.R_drewN | apply Kd.R_drew)); exact HO_4.out) hb); have n1_ := Aside0.mk (Kd.R_lower ho21 (below_size (by repeat (first | (with_reducible first | exact HB.out | apply below_alloc | apply pw_below_drewN | apply below_drew1 | refine below_set ?_ GE160.out) | exact HB.out)))); have n2_ := Aside0.mk (blk_below (g := gb160) (o := .cells #[.bool a0_0, .bool a0_1, .int .i64 a0_2, .int .i64 a0_3, .int .i64 a0_4, .int .i64 a0_5] 29 (0, 0)) (by (with_reducible repeat (first | refine blk_drewN ?_ _ | refine blk_drew ?_ | refine blk_alloc ?_ _)); exact BK160.out) hb); have n3_ := Aside0.mk (below_step (by repeat (first | (with_reducible first | exact HB.out | apply below_alloc | apply pw_below_drewN | apply below_drew1 | refine below_set ?_ GE160.out) | exact HB.out)) hb); clear HO_4; clear BK160; clear HB; have HO_4 := n0_; have HO168 := n1_; have BK160 := n2_; have HB := n3_; clear n0_ n1_ n2_ n3_; clear hb ho21; have hcv22 := own_string (P := Try.prog) Try.underlying43 Try.underlying5 Try.underlying9 (Kd.own_of_R HO168.out)))
           (try simp only [← hl4_3])
           go_roundg k3
           case measure => have := HJ1.out; have := HJ5.out; have := HK3.out; omega
           case rel => exact ⟨(x5_3 ++ (strOfNums y166)), (wrap64 (x6_3 + 1)), (by first | rfl | (simp; done) | (simp [*]; done) | (simp; exact (fun l : List UInt8 => (by cases l <;> rfl : l.isEmpty = !(l != []))) _)), (by first | rfl | (simp; done) | (simp [*]; done) | (simp; exact (fun l : List UInt8 => (by cases l <;> rfl : l.isEmpty = !(l != []))) _)), H', ⟨by have := HJ1.out; have := HJ5.out; have := HK3.out; omega⟩, ⟨by (try simp only [hl4_3]); (with_reducible repeat (first | apply Kd.R_alloc | apply Kd.R_drewN | apply Kd.R_drew)); exact HO_4.out⟩, ⟨by (try simp only [hl4_3]); (with_reducible repeat (first | refine blk_drewN ?_ _ | refine blk_drew ?_ | refine blk_alloc ?_ _)); exact BK160.out⟩, ⟨by repeat (first | (with_reducible first | exact HB.out | apply below_alloc | apply pw_below_drewN | apply below_drew1 | refine below_set ?_ GE160.out) | exact HB.out)⟩⟩
          ·rw [if_neg c19] at H
           exact absurd H (by simp)
         ·rw [if_neg c18] at H
          exact absurd H (by simp)
        ·rw [if_neg c17] at H
         have c17b0 : decide (x6_3 < (y164.length : Int)) = false := decide_eq_false c17
         clear c17
         obtain rfl := Option.some.inj H
         go_wp2
         go_ret
         exact ⟨by first | rfl | (simp [errW_none, errW_some] <;> rfl) | (simp [*, errW_none, errW_some] <;> rfl), by repeat (first | (with_reducible first | exact HB.out | apply below_alloc | apply pw_below_drewN | apply below_drew1 | refine below_set ?_ GE160.out) | exact HB.out)⟩
     ·rw [if_neg c9] at H
      exact absurd H (by simp)

end Go.Proofs.Ytpmieapgbdbabaa.QXidPuts
end

section
/- Walks, written by a program of this session (wip/pp): a Go function comes to what the Lean function beside it tells. -/
namespace Go.Proofs.Ytpmieapgbdbabaa.QXidPuts
open Go.RowKit Go.Proofs.YtpmieapgbdbabaaW.PrintWords Go.Proofs.YtpmieapgbdbabaaW.PrintLast Go.Proofs.YtpmieapgbdbabaaW.PrintMore
attribute [local go_sem] max2_int min2_int max_two min_two max_three min_three max_four min_four
set_option linter.unusedVariables false
set_option linter.unusedSimpArgs false

def stringslite_HasPrefix.f (a0 : ByteArray) (a1 : ByteArray) : Option (Bool) := if (a0.size : Int) ≥ (a1.size : Int) then (if 0 ≤ (a1.size : Int) then (if (a1.size : Int) ≤ (a0.size : Int) then (some ((a0.extract 0 ((a1.size : Int) : Int).toNat).toList == a1.toList)) else (none)) else (none)) else (some false)
set_option maxHeartbeats 8000000 in
set_option maxRecDepth 100000 in
theorem stringslite_HasPrefix.calls (a0 : ByteArray) (a1 : ByteArray) (r : Bool) (w : World) (h : stringslite_HasPrefix.f a0 a1 = some r) :
  Calls Try.prog 22 #[.string a0, .string a1] w fun e w' => e = .returned (.bool r) ∧ Drawn0 w w' := by
 have H : (if (a0.size : Int) ≥ (a1.size : Int) then (if 0 ≤ (a1.size : Int) then (if (a1.size : Int) ≤ (a0.size : Int) then (some ((a0.extract 0 ((a1.size : Int) : Int).toNat).toList == a1.toList)) else (none)) else (none)) else (some false)) = some r := h
 clear h
 by_cases c3 : (a0.size : Int) ≥ (a1.size : Int)
 ·rw [if_pos c3] at H
  have c3b0 : decide ((a1.size : Int) ≤ (a0.size : Int)) = true := decide_eq_true c3
  have c3b1 : decide (a1.size ≤ a0.size) = true := decide_eq_true (Int.ofNat_le.mp c3)
  clear c3
  by_cases c4 : 0 ≤ (a1.size : Int)
  ·rw [if_pos c4] at H
   have c4b0 := eq_true c4
   have c4b1 : decide (0 ≤ (a1.size : Int)) = true := decide_eq_true c4
   clear c4
   by_cases c5 : (a1.size : Int) ≤ (a0.size : Int)
   ·rw [if_pos c5] at H
    have c5b0 := eq_true c5
    have c5b1 : decide ((a1.size : Int) ≤ (a0.size : Int)) = true := decide_eq_true c5
    clear c5
    obtain rfl := Option.some.inj H
    go_enter Try.func22, Try.ntmps22
    go_wp2
    go_ret
    exact ⟨by first | rfl | (simp; done) | (simp [*]; done) | (simp; exact (fun l : List UInt8 => (by cases l <;> rfl : l.isEmpty = !(l != []))) _), by repeat (first | exact Drawn0.refl _ | apply Drawn0.step)⟩
   ·rw [if_neg c5] at H
    exact absurd H (by simp)
  ·rw [if_neg c4] at H
   exact absurd H (by simp)
 ·rw [if_neg c3] at H
  have c3b0 : decide ((a1.size : Int) ≤ (a0.size : Int)) = false := decide_eq_false c3
  have c3b1 : decide (a1.size ≤ a0.size) = false := decide_eq_false (fun h => c3 (Int.ofNat_le.mpr h))
  clear c3
  obtain rfl := Option.some.inj H
  go_enter Try.func22, Try.ntmps22
  go_wp2
  go_ret
  exact ⟨by first | rfl | (simp; done) | (simp [*]; done) | (simp; exact (fun l : List UInt8 => (by cases l <;> rfl : l.isEmpty = !(l != []))) _), by repeat (first | exact Drawn0.refl _ | apply Drawn0.step)⟩

end Go.Proofs.Ytpmieapgbdbabaa.QXidPuts
end

section
/- Walks, written by a program of this session (wip/pp): a Go function comes to what the Lean function beside it tells. -/
namespace Go.Proofs.Ytpmieapgbdbabaa.QXidPuts
open Go.RowKit Go.Proofs.YtpmieapgbdbabaaW.PrintWords Go.Proofs.YtpmieapgbdbabaaW.PrintLast Go.Proofs.YtpmieapgbdbabaaW.PrintMore
attribute [local go_sem] max2_int min2_int max_two min_two max_three min_three max_four min_four
set_option linter.unusedVariables false
set_option linter.unusedSimpArgs false

def strings_HasPrefix.f (a0 : ByteArray) (a1 : ByteArray) : Option (Bool) := (stringslite_HasPrefix.f a0 a1).bind fun t158 => (some t158)
set_option maxHeartbeats 8000000 in
set_option maxRecDepth 100000 in
theorem strings_HasPrefix.calls (a0 : ByteArray) (a1 : ByteArray) (r : Bool) (w : World) (h : strings_HasPrefix.f a0 a1 = some r) :
  Calls Try.prog 20 #[.string a0, .string a1] w fun e w' => e = .returned (.bool r) ∧ Drawn0 w w' := by
 have H : ((stringslite_HasPrefix.f a0 a1).bind fun t158 => (some t158)) = some r := h
 clear h
 replace H := Option.bind_eq_some_iff.mp H
 obtain ⟨t158, A30, H⟩ := H
 replace H : (some t158) = some r := H
 have A3 := Aside0.mk A30
 clear A30
 obtain rfl := Option.some.inj H
 go_enter Try.func20, Try.ntmps20
 go_wp2_with (first | ((with_reducible refine gate_callee (f := 22) rfl ?_); refine goesL_ (some 7) rfl rfl Try.func22 (by kernel_rfl) rfl #[.string a0, .string a1] rfl (by (try simp only [List.map_toArray, List.map_cons, List.map_nil]); first | done | rfl | (simp only [List.length_drop, List.length_take]; rfl)) ?_; (with_reducible refine (stringslite_HasPrefix.calls a0 a1 t158 _ A3.out).mono ?_); rintro e w' ⟨rfl, ⟨nd, rfl⟩⟩; refine ⟨_, rfl, ?_⟩))
 go_ret
 exact ⟨by first | rfl | (simp; done) | (simp [*]; done) | (simp; exact (fun l : List UInt8 => (by cases l <;> rfl : l.isEmpty = !(l != []))) _), by repeat (first | exact Drawn0.refl _ | apply Drawn0.step)⟩

end Go.Proofs.Ytpmieapgbdbabaa.QXidPuts
end

section
/- xid.number, walked by hand: the number of bytes. -/
set_option linter.unusedVariables false
set_option linter.unusedSimpArgs false
namespace Go.Proofs.Ytpmieapgbdbabaa.QXidPuts
open Go.RowKit Go.Proofs.YtpmieapgbdbabaaW.PrintWords Go.Proofs.YtpmieapgbdbabaaW.PrintLast Go.Proofs.YtpmieapgbdbabaaW.PrintMore

/-- The number of the first k bytes. -/
def numK (s : ByteArray) : Nat → Int
  | 0 => 0
  | k + 1 => Go.bits .or .i64 (wrap64 (numK s k * 256)) (bt s k)
def numS (s : ByteArray) : Int := numK s s.size
set_option maxHeartbeats 1000000 in
set_option maxRecDepth 100000 in
theorem number_any (a0 : ByteArray) (w : World) (hs : a0.size ≤ 9223372036854775807) :
    Calls Try.prog 19 #[.string a0] w fun e w' => e = .returned (.int .i64 (numS a0)) ∧ Below w.heap.size w w' := by
  have kb := fun W => print_bytes (P := Try.prog) 9 43 5 Try.underlying9 Try.underlying43 Try.underlying5 a0 W
  go_enter Try.func19, Try.ntmps19
  go_wp2
  go_loopw [3, 9] (fun n i wr => ∃ k : Nat, k ≤ a0.size ∧ i = .int .i64 k ∧ n = .int .i64 (numK a0 k) ∧ Aside0 (ReadsInt wr .u8 (some ⟨w.heap.size, 0, none⟩) a0.size (bytesOf a0)) ∧ Aside0 (Below w.heap.size w wr)) (fun n i _ => a0.size - (intOf i).toNat)
  case atStart => exact ⟨0, Nat.zero_le _, rfl, rfl, ⟨bytes_reads w 5 a0 hs⟩, ⟨bytes_below (Below.refl _ _) (Nat.le_refl _) _ _⟩⟩
  case round =>
    obtain ⟨k, hk, rfl, rfl, HR, HB⟩ := hrel
    by_cases hlt : k < a0.size
    · have hb := bt_range a0 k
      have hcell : wr.cell? ⟨w.heap.size, k, none⟩ = some (.int .u8 (bt a0 k)) := by
        obtain ⟨ad, he, hc⟩ := HR.out.2.2 (by omega)
        cases he
        have h' := hc k hlt
        rw [add_plain] at h'
        have e : (bytesOf a0).getD k 0 = bt a0 k := by
          unfold bt
          rw [dif_pos (by simpa using hlt), List.getD_eq_getElem?_getD, List.getElem?_eq_getElem (by rw [bytesOf_length]; exact hlt)]
          simp [bytesOf]
          rfl
        rw [e] at h'
        first | exact h' | (rw [Nat.zero_add] at h'; exact h')
      go_wp2
      exact ⟨⟨k + 1, by omega, by first | rfl | (congr 1), rfl, HR, HB⟩, by simp only [intOf]; omega⟩
    · obtain rfl : k = a0.size := by omega
      go_wp2
      go_ret
      exact ⟨rfl, HB.out⟩
/-- 'm[k] = v' of a literal's entry, at the operation. -/
theorem wpList_insert_own {H : Type} {P : Program} (w : World) {ops : Array Oper} {rest : List Oper} {o : Oper} {a : Act} {Q : Exit → Act → World → Prop}
    (hg : o.guard = none) (m x v : Operand) (t : TypeId) (hop : o.op = Op.insert t m x v)
    (k e : TypeId) (K : Maps.Keyed P k) (ht : P.underlying t = some (.map k e)) (R : Value → Option (DataW H × List MemPlace)) (b n : Nat) (D : DataW H)
    (hm : a.eval m = .map (some b)) (hown : w.ownsMap P k R b n D) (hn : n < maxLen) (key val : Value) (kl : Lit) (hx : a.eval x = key) (hv : a.eval v = val) (hkey : keyOf P k key = some kl)
    (d : DataW H) (ps : List MemPlace) (hval : R val = some (d, ps))
    (hK : ∀ w', w'.ownsMap P k R b (n + 1) (D.put kl d) → w.grownBy w' (some b) → wpList P ops Q rest (a.put o.dst undef) w') :
    wpList P ops Q (o :: rest) a w := by
  refine wpList_plain hg fun K' hK' => ?_
  obtain ⟨w', hrun, r1, r2⟩ := hown.update K ht hn hkey hval
  unfold Oper.wp
  simp [execOp, hop, hm, hx, hv, hrun, Result.andThen]
  exact hK' _ _ (hK w' r1 r2)
structure XP where
  wd : Bool
  sr : Bool
  n : Int
  k : Int
  t : Int
  m : Int
def bit2 (b : Bool) (v : Int) : Int := if b = true then v else 0
/-- What a parameter's bytes set; false: it can't be so. -/
def setF (p : XP) (num : Int) (s : ByteArray) : XP × Bool :=
  if num = 3 then
    let p' : XP := { p with wd := Go.bits .and .i64 (numS s / 256) 2 != 0, sr := Go.bits .and .i64 (numS s / 256) 4 != 0 }
    (p', if numS s = wrap64 (Go.bits .or .i64 (bit2 p'.wd 2) (bit2 p'.sr 4) * 256) then ((s.size : Int) == 2) else false)
  else if num = 6 then ({ p with n := numS s }, ((s.size : Int) == 2))
  else if num = 8 then ({ p with k := numS s }, ((s.size : Int) == 1))
  else if num = 9 then ({ p with t := numS s }, ((s.size : Int) == 1))
  else if num = 10 then ({ p with m := numS s }, ((s.size : Int) == 1))
  else (p, true)
def i64 (n : Int) : DataW Unit := .lit (.int .i64 n)
def kl (n : Int) : Lit := .int .i64 n
def sizesD : DataW Unit := (((((DataW.map ([] : List (Lit × DataW Unit))).put (kl 3) (i64 2)).put (kl 6) (i64 2)).put (kl 8) (i64 1)).put (kl 9) (i64 1)).put (kl 10) (i64 1)
theorem at_3 : sizesD.atKey (.int .i64 3) (.lit (.int .i64 0)) = .lit (.int .i64 2) := by kernel_rfl
theorem has_3 : Maps.has sizesD (.int .i64 3) = true := by kernel_rfl
theorem at_6 : sizesD.atKey (.int .i64 6) (.lit (.int .i64 0)) = .lit (.int .i64 2) := by kernel_rfl
theorem has_6 : Maps.has sizesD (.int .i64 6) = true := by kernel_rfl
theorem at_8 : sizesD.atKey (.int .i64 8) (.lit (.int .i64 0)) = .lit (.int .i64 1) := by kernel_rfl
theorem has_8 : Maps.has sizesD (.int .i64 8) = true := by kernel_rfl
theorem at_9 : sizesD.atKey (.int .i64 9) (.lit (.int .i64 0)) = .lit (.int .i64 1) := by kernel_rfl
theorem has_9 : Maps.has sizesD (.int .i64 9) = true := by kernel_rfl
theorem at_10 : sizesD.atKey (.int .i64 10) (.lit (.int .i64 0)) = .lit (.int .i64 1) := by kernel_rfl
theorem has_10 : Maps.has sizesD (.int .i64 10) = true := by kernel_rfl
theorem key3 : Maps.Keyed Try.prog 3 := Maps.int_keyed Try.underlying3
theorem zero3 (w : World) : (zeroValue 3).run Try.prog w = .ok (.int .i64 0) w := by kernel_rfl
theorem six_cell {w : World} {g : Nat} {a0 a1 a2 a3 a4 a5 : Value} {t : TypeId} (h : w.heap[g]? = some (.cells #[a0, a1, a2, a3, a4, a5] t (0, 0))) :
    (w.cell? ⟨g, 0, none⟩ = some a0 ∧ w.cell? ⟨g, 1, none⟩ = some a1 ∧ w.cell? ⟨g, 2, none⟩ = some a2 ∧ w.cell? ⟨g, 3, none⟩ = some a3 ∧ w.cell? ⟨g, 4, none⟩ = some a4 ∧ w.cell? ⟨g, 5, none⟩ = some a5) ∧
    (w.frozen? ⟨g, 0, none⟩ = false ∧ w.frozen? ⟨g, 1, none⟩ = false ∧ w.frozen? ⟨g, 2, none⟩ = false ∧ w.frozen? ⟨g, 3, none⟩ = false ∧ w.frozen? ⟨g, 4, none⟩ = false ∧ w.frozen? ⟨g, 5, none⟩ = false) := by
  simp [World.cell?, World.frozen?, h]
theorem lt_of_blk9 {W : World} {g : Nat} {o : Obj} (h : W.heap[g]? = some o) : g < W.heap.size := (Array.getElem?_eq_some_iff.1 h).1
/-- The parameters' block, and that nothing older but it has turned. -/
def SI (w : World) (g : Nat) (p : XP) (W : World) : Prop :=
  W.heap[g]? = some (.cells #[.bool p.wd, .bool p.sr, .int .i64 p.n, .int .i64 p.k, .int .i64 p.t, .int .i64 p.m] 23 (0, 0)) ∧ w.grownBy W (some g)
theorem sizes_other {num : Int} (h3 : num ≠ 3) (h6 : num ≠ 6) (h8 : num ≠ 8) (h9 : num ≠ 9) (h10 : num ≠ 10) : Maps.has sizesD (kl num) = false := by
  have ne : ∀ a : Int, num ≠ a → kl num ≠ kl a := fun a h e => h (by injection e)
  unfold sizesD
  rw [Maps.has_put_other (ne 10 h10), Maps.has_put_other (ne 9 h9), Maps.has_put_other (ne 8 h8), Maps.has_put_other (ne 6 h6), Maps.has_put_other (ne 3 h3)]
  rfl
/-- The map of sizes, the parameters' block, and that nothing older has turned. -/
def MI (w : World) (g : Nat) (p : XP) (j : Nat) (D : DataW Unit) (W : World) : Prop :=
  W.ownsMap Try.prog 3 (plainElem Try.prog 3) w.heap.size j D ∧ W.heap[g]? = some (.cells #[.bool p.wd, .bool p.sr, .int .i64 p.n, .int .i64 p.k, .int .i64 p.t, .int .i64 p.m] 23 (0, 0)) ∧ Below w.heap.size w W
theorem MI_put {w : World} {g : Nat} {p : XP} {j : Nat} {D D' : DataW Unit} {W W' : World} (hlt : g < w.heap.size) (h : MI w g p j D W) (ho : W'.ownsMap Try.prog 3 (plainElem Try.prog 3) w.heap.size (j + 1) D') (hg : W.grownBy W' (some w.heap.size)) : MI w g p (j + 1) D' W' :=
  ⟨ho, (hg.block g (lt_of_blk9 h.2.1) (fun e => by cases e; omega)).trans h.2.1, h.2.2.grown hg h.2.2.size (fun k e => by cases e; exact Nat.le_refl _)⟩
theorem look_eq {k : Lit} {c d : Int} {z : DataW Unit} (h : sizesD.atKey k z = .lit (.int .i64 c)) (h' : sizesD.atKey k z = .lit (.int .i64 d)) : c = d := by
  have := h.symm.trans h'
  simpa using this
theorem SI_of {w : World} {g : Nat} {p : XP} {j : Nat} {D : DataW Unit} {W W' : World} (h : MI w g p j D W) (hb : Below W.heap.size W W') : SI w g p W' :=
  have hB := below_then h.2.2 h.2.2.size hb
  ⟨(hb.block _ (lt_of_blk9 h.2.1)).trans h.2.1, ⟨hB.os, hB.tape, hB.output, hB.size, fun k hk _ => hB.block k hk⟩⟩
theorem SI_set {w : World} {g : Nat} {p p' : XP} {W : World} {i : Nat} {u : Value} (h : SI w g p W)
    (hp : (W.setCell ⟨g, i, none⟩ u).heap[g]? = some (.cells #[.bool p'.wd, .bool p'.sr, .int .i64 p'.n, .int .i64 p'.k, .int .i64 p'.t, .int .i64 p'.m] 23 (0, 0))) : SI w g p' (W.setCell ⟨g, i, none⟩ u) :=
  ⟨hp, ⟨h.2.os, h.2.tape, h.2.output, by simpa [World.setCell] using h.2.size, fun k hk hne => (Below.heap_setCell W ⟨g, i, none⟩ u k (fun e => hne (by rw [e]))).trans (h.2.block k hk hne)⟩⟩
theorem SI_drew {w : World} {g : Nat} {p : XP} {W : World} (h : SI w g p W) (n : Nat) : SI w g p (W.drewN n) := ⟨h.1, ⟨h.2.os, h.2.tape, h.2.output, h.2.size, h.2.block⟩⟩
theorem bit_f (a : Bool) (v : Int) : xid_bit.f a v = some (bit2 a v) := by cases a <;> rfl
theorem setF_3 (p : XP) (s : ByteArray) : setF p 3 s = ({ p with wd := Go.bits .and .i64 (numS s / 256) 2 != 0, sr := Go.bits .and .i64 (numS s / 256) 4 != 0 }, if numS s = wrap64 (Go.bits .or .i64 (bit2 (Go.bits .and .i64 (numS s / 256) 2 != 0) 2) (bit2 (Go.bits .and .i64 (numS s / 256) 4 != 0) 4) * 256) then ((s.size : Int) == 2) else false) := by
  unfold setF
  rw [if_pos rfl]
set_option maxHeartbeats 8000000 in
set_option maxRecDepth 100000 in
theorem set_3 (g : Nat) (p : XP) (s : ByteArray) (w : World) (hs : s.size ≤ 9223372036854775807) (hg : w.heap[g]? = some (.cells #[.bool p.wd, .bool p.sr, .int .i64 p.n, .int .i64 p.k, .int .i64 p.t, .int .i64 p.m] 23 (0, 0))) :
    Calls Try.prog 21 #[.pointer (some ⟨g, 0, none⟩), .int .i64 3, .string s] w fun e w' => e = .returned (.bool (setF p 3 s).2) ∧ SI w g (setF p 3 s).1 w' := by
  have hu23 := Try.underlying23
  have hu50 := Try.underlying50
  have hlt := lt_of_blk9 hg
  have HLT := Aside0.mk hlt
  have HNUM := Aside0.mk (show (Lit.int .i64 3).wf = true by decide)
  have HM := Aside0.mk (show MI w g p 0 (.map []) (w.alloc (.map #[] 0)) from ⟨World.ownsMap_made (H := Unit) w Try.prog 3 (plainElem Try.prog 3), (Below.heap_alloc w _ g hlt).trans hg, (Below.refl w.heap.size w).alloc (Nat.le_refl _) _⟩)
  have hmm := @run_makeMap Try.prog
  clear hlt hg
  have HAT := Aside0.mk at_3
  have HHAS := Aside0.mk has_3
  go_enter Try.func21, Try.ntmps21
  go_wp2_with (first | (refine wpList_insert_own (H := Unit) _ rfl _ _ _ 50 rfl 3 3 key3 Try.underlying50 (plainElem Try.prog 3) w.heap.size _ _ rfl HM.out.1 (by show _ < 9223372036854775807; omega) _ _ _ rfl rfl (Maps.keyOf_int_mk Try.underlying3 (by decide)) _ [] (plainElem_int Try.underlying3 (by decide)) ?_; intro w1 hown1 hg1; have HM1 := Aside0.mk (MI_put HLT.out HM.out hown1 hg1); clear HM hown1 hg1; have HM := HM1; clear HM1) | (at_lookup; refine wpList_lookup_own_ok_int _ rfl _ _ 50 rfl 3 3 .i64 key3 Try.underlying50 Try.underlying3 (zero3 _) w.heap.size 5 sizesD rfl HM.out.1 _ _ rfl (Maps.keyOf_int_mk Try.underlying3 HNUM.out) ?_; intro c hat hwc; obtain rfl := look_eq hat HAT.out; clear hat hwc; rw [HHAS.out]) | (go_at_call 19; refine (number_any s _ hs).mono ?_; rintro e w5 ⟨rfl, hb⟩; have HX := Aside0.mk (SI_of HM.out hb); clear HM hb; obtain ⟨⟨q0, q1, q2, q3, q4, q5⟩, f0, f1, f2, f3, f4, f5⟩ := six_cell HX.out.1))
  have hS := setF_3 p s
  have HS := Aside0.mk hS
  generalize hb1 : (Go.bits .and .i64 (numS s / 256) 2 != 0) = b1
  generalize hb2 : (Go.bits .and .i64 (numS s / 256) 4 != 0) = b2
  have hx1 : SI w g { p with wd := b1 } (w5.setCell ⟨g, 0, none⟩ (.bool b1)) := SI_set HX.out (by simp [World.setCell, Array.getElem?_modify, HX.out.1])
  have hx2 : SI w g { p with wd := b1, sr := b2 } ((w5.setCell ⟨g, 0, none⟩ (.bool b1)).setCell ⟨g, 1, none⟩ (.bool b2)) := SI_set hx1 (by simp [World.setCell, Array.getElem?_modify, HX.out.1])
  have HX2 := Aside0.mk hx2
  have HB1 := Aside0.mk hb1
  have HB2 := Aside0.mk hb2
  clear hx1 hx2 HX hS q0 q1 q2 q3 q4 q5 f0 f1 f2 f3 f4 f5 hb1 hb2
  generalize (w5.setCell ⟨g, 0, none⟩ (.bool b1)).setCell ⟨g, 1, none⟩ (.bool b2) = w7 at HX2 ⊢
  obtain ⟨⟨q0', q1', q2, q3, q4, q5⟩, f0, f1, f2, f3, f4, f5⟩ := six_cell HX2.out.1
  have q0 : w7.cell? ⟨g, 0, none⟩ = some (.bool b1) := q0'
  have q1 : w7.cell? ⟨g, 1, none⟩ = some (.bool b2) := q1'
  clear q0' q1' q2 q3 q4 q5 f0 f1 f2 f3 f4 f5 hmm HAT HHAS HNUM HLT
  generalize numS s = N at HS HB1 HB2 ⊢
  by_cases hq : N = wrap64 (Go.bits .or .i64 (bit2 b1 2) (bit2 b2 4) * 256)
  · have HQ := Aside0.mk hq
    have hq1 : (N == wrap64 (Go.bits .or .i64 (bit2 b1 2) (bit2 b2 4) * 256)) = true := beq_iff_eq.2 hq
    have hq2 : (N != wrap64 (Go.bits .or .i64 (bit2 b1 2) (bit2 b2 4) * 256)) = false := by simp [← hq]
    clear hq
    as_aux_lemma =>
      go_quiet (first | (go_at_call 18; (with_reducible refine (xid_bit.calls b1 2 (bit2 b1 2) _ (bit_f b1 2)).mono ?_); rintro e w' ⟨rfl, ⟨nd, rfl⟩⟩; (try first | exact ⟨rfl, _, World.drewN_drewN _ _ _⟩ | exact ⟨rfl, _, Eq.trans (World.drewN_drewN _ _ _) (congrArg (World.drewN _) (Nat.add_assoc _ _ _))⟩)) | (go_at_call 18; (with_reducible refine (xid_bit.calls b2 4 (bit2 b2 4) _ (bit_f b2 4)).mono ?_); rintro e w' ⟨rfl, ⟨nd, rfl⟩⟩; (try first | exact ⟨rfl, _, World.drewN_drewN _ _ _⟩ | exact ⟨rfl, _, Eq.trans (World.drewN_drewN _ _ _) (congrArg (World.drewN _) (Nat.add_assoc _ _ _))⟩)))
      go_wp2_with (fail)
      go_ret
      rw [HS.out, HB1.out, HB2.out, if_pos HQ.out]
      exact ⟨rfl, SI_drew HX2.out _⟩
  · have HQ := Aside0.mk hq
    have hq1 : (N == wrap64 (Go.bits .or .i64 (bit2 b1 2) (bit2 b2 4) * 256)) = false := beq_eq_false_iff_ne.2 hq
    have hq2 : (N != wrap64 (Go.bits .or .i64 (bit2 b1 2) (bit2 b2 4) * 256)) = true := by simp [hq]
    clear hq
    as_aux_lemma =>
      go_quiet (first | (go_at_call 18; (with_reducible refine (xid_bit.calls b1 2 (bit2 b1 2) _ (bit_f b1 2)).mono ?_); rintro e w' ⟨rfl, ⟨nd, rfl⟩⟩; (try first | exact ⟨rfl, _, World.drewN_drewN _ _ _⟩ | exact ⟨rfl, _, Eq.trans (World.drewN_drewN _ _ _) (congrArg (World.drewN _) (Nat.add_assoc _ _ _))⟩)) | (go_at_call 18; (with_reducible refine (xid_bit.calls b2 4 (bit2 b2 4) _ (bit_f b2 4)).mono ?_); rintro e w' ⟨rfl, ⟨nd, rfl⟩⟩; (try first | exact ⟨rfl, _, World.drewN_drewN _ _ _⟩ | exact ⟨rfl, _, Eq.trans (World.drewN_drewN _ _ _) (congrArg (World.drewN _) (Nat.add_assoc _ _ _))⟩)))
      go_wp2_with (fail)
      go_ret
      rw [HS.out, HB1.out, HB2.out, if_neg HQ.out]
      exact ⟨rfl, SI_drew HX2.out _⟩
set_option maxHeartbeats 8000000 in
set_option maxRecDepth 100000 in
theorem set_6 (g : Nat) (p : XP) (s : ByteArray) (w : World) (hs : s.size ≤ 9223372036854775807) (hg : w.heap[g]? = some (.cells #[.bool p.wd, .bool p.sr, .int .i64 p.n, .int .i64 p.k, .int .i64 p.t, .int .i64 p.m] 23 (0, 0))) :
    Calls Try.prog 21 #[.pointer (some ⟨g, 0, none⟩), .int .i64 6, .string s] w fun e w' => e = .returned (.bool (setF p 6 s).2) ∧ SI w g (setF p 6 s).1 w' := by
  have hu23 := Try.underlying23
  have hu50 := Try.underlying50
  have hlt := lt_of_blk9 hg
  have HLT := Aside0.mk hlt
  have HNUM := Aside0.mk (show (Lit.int .i64 6).wf = true by decide)
  have HM := Aside0.mk (show MI w g p 0 (.map []) (w.alloc (.map #[] 0)) from ⟨World.ownsMap_made (H := Unit) w Try.prog 3 (plainElem Try.prog 3), (Below.heap_alloc w _ g hlt).trans hg, (Below.refl w.heap.size w).alloc (Nat.le_refl _) _⟩)
  have hmm := @run_makeMap Try.prog
  clear hlt hg
  have HAT := Aside0.mk at_6
  have HHAS := Aside0.mk has_6
  go_enter Try.func21, Try.ntmps21
  go_wp2_with (first | (refine wpList_insert_own (H := Unit) _ rfl _ _ _ 50 rfl 3 3 key3 Try.underlying50 (plainElem Try.prog 3) w.heap.size _ _ rfl HM.out.1 (by show _ < 9223372036854775807; omega) _ _ _ rfl rfl (Maps.keyOf_int_mk Try.underlying3 (by decide)) _ [] (plainElem_int Try.underlying3 (by decide)) ?_; intro w1 hown1 hg1; have HM1 := Aside0.mk (MI_put HLT.out HM.out hown1 hg1); clear HM hown1 hg1; have HM := HM1; clear HM1) | (at_lookup; refine wpList_lookup_own_ok_int _ rfl _ _ 50 rfl 3 3 .i64 key3 Try.underlying50 Try.underlying3 (zero3 _) w.heap.size 5 sizesD rfl HM.out.1 _ _ rfl (Maps.keyOf_int_mk Try.underlying3 HNUM.out) ?_; intro c hat hwc; obtain rfl := look_eq hat HAT.out; clear hat hwc; rw [HHAS.out]) | (go_at_call 19; refine (number_any s _ hs).mono ?_; rintro e w5 ⟨rfl, hb⟩; have HX := Aside0.mk (SI_of HM.out hb); clear HM hb; obtain ⟨⟨q0, q1, q2, q3, q4, q5⟩, f0, f1, f2, f3, f4, f5⟩ := six_cell HX.out.1))
  go_ret
  rw [show setF p 6 s = ({ p with n := numS s }, ((s.size : Int) == 2)) from rfl]
  exact ⟨rfl, SI_set HX.out (by simp [World.setCell, Array.getElem?_modify, HX.out.1])⟩
set_option maxHeartbeats 8000000 in
set_option maxRecDepth 100000 in
theorem set_8 (g : Nat) (p : XP) (s : ByteArray) (w : World) (hs : s.size ≤ 9223372036854775807) (hg : w.heap[g]? = some (.cells #[.bool p.wd, .bool p.sr, .int .i64 p.n, .int .i64 p.k, .int .i64 p.t, .int .i64 p.m] 23 (0, 0))) :
    Calls Try.prog 21 #[.pointer (some ⟨g, 0, none⟩), .int .i64 8, .string s] w fun e w' => e = .returned (.bool (setF p 8 s).2) ∧ SI w g (setF p 8 s).1 w' := by
  have hu23 := Try.underlying23
  have hu50 := Try.underlying50
  have hlt := lt_of_blk9 hg
  have HLT := Aside0.mk hlt
  have HNUM := Aside0.mk (show (Lit.int .i64 8).wf = true by decide)
  have HM := Aside0.mk (show MI w g p 0 (.map []) (w.alloc (.map #[] 0)) from ⟨World.ownsMap_made (H := Unit) w Try.prog 3 (plainElem Try.prog 3), (Below.heap_alloc w _ g hlt).trans hg, (Below.refl w.heap.size w).alloc (Nat.le_refl _) _⟩)
  have hmm := @run_makeMap Try.prog
  clear hlt hg
  have HAT := Aside0.mk at_8
  have HHAS := Aside0.mk has_8
  go_enter Try.func21, Try.ntmps21
  go_wp2_with (first | (refine wpList_insert_own (H := Unit) _ rfl _ _ _ 50 rfl 3 3 key3 Try.underlying50 (plainElem Try.prog 3) w.heap.size _ _ rfl HM.out.1 (by show _ < 9223372036854775807; omega) _ _ _ rfl rfl (Maps.keyOf_int_mk Try.underlying3 (by decide)) _ [] (plainElem_int Try.underlying3 (by decide)) ?_; intro w1 hown1 hg1; have HM1 := Aside0.mk (MI_put HLT.out HM.out hown1 hg1); clear HM hown1 hg1; have HM := HM1; clear HM1) | (at_lookup; refine wpList_lookup_own_ok_int _ rfl _ _ 50 rfl 3 3 .i64 key3 Try.underlying50 Try.underlying3 (zero3 _) w.heap.size 5 sizesD rfl HM.out.1 _ _ rfl (Maps.keyOf_int_mk Try.underlying3 HNUM.out) ?_; intro c hat hwc; obtain rfl := look_eq hat HAT.out; clear hat hwc; rw [HHAS.out]) | (go_at_call 19; refine (number_any s _ hs).mono ?_; rintro e w5 ⟨rfl, hb⟩; have HX := Aside0.mk (SI_of HM.out hb); clear HM hb; obtain ⟨⟨q0, q1, q2, q3, q4, q5⟩, f0, f1, f2, f3, f4, f5⟩ := six_cell HX.out.1))
  go_ret
  rw [show setF p 8 s = ({ p with k := numS s }, ((s.size : Int) == 1)) from rfl]
  exact ⟨rfl, SI_set HX.out (by simp [World.setCell, Array.getElem?_modify, HX.out.1])⟩
set_option maxHeartbeats 8000000 in
set_option maxRecDepth 100000 in
theorem set_9 (g : Nat) (p : XP) (s : ByteArray) (w : World) (hs : s.size ≤ 9223372036854775807) (hg : w.heap[g]? = some (.cells #[.bool p.wd, .bool p.sr, .int .i64 p.n, .int .i64 p.k, .int .i64 p.t, .int .i64 p.m] 23 (0, 0))) :
    Calls Try.prog 21 #[.pointer (some ⟨g, 0, none⟩), .int .i64 9, .string s] w fun e w' => e = .returned (.bool (setF p 9 s).2) ∧ SI w g (setF p 9 s).1 w' := by
  have hu23 := Try.underlying23
  have hu50 := Try.underlying50
  have hlt := lt_of_blk9 hg
  have HLT := Aside0.mk hlt
  have HNUM := Aside0.mk (show (Lit.int .i64 9).wf = true by decide)
  have HM := Aside0.mk (show MI w g p 0 (.map []) (w.alloc (.map #[] 0)) from ⟨World.ownsMap_made (H := Unit) w Try.prog 3 (plainElem Try.prog 3), (Below.heap_alloc w _ g hlt).trans hg, (Below.refl w.heap.size w).alloc (Nat.le_refl _) _⟩)
  have hmm := @run_makeMap Try.prog
  clear hlt hg
  have HAT := Aside0.mk at_9
  have HHAS := Aside0.mk has_9
  go_enter Try.func21, Try.ntmps21
  go_wp2_with (first | (refine wpList_insert_own (H := Unit) _ rfl _ _ _ 50 rfl 3 3 key3 Try.underlying50 (plainElem Try.prog 3) w.heap.size _ _ rfl HM.out.1 (by show _ < 9223372036854775807; omega) _ _ _ rfl rfl (Maps.keyOf_int_mk Try.underlying3 (by decide)) _ [] (plainElem_int Try.underlying3 (by decide)) ?_; intro w1 hown1 hg1; have HM1 := Aside0.mk (MI_put HLT.out HM.out hown1 hg1); clear HM hown1 hg1; have HM := HM1; clear HM1) | (at_lookup; refine wpList_lookup_own_ok_int _ rfl _ _ 50 rfl 3 3 .i64 key3 Try.underlying50 Try.underlying3 (zero3 _) w.heap.size 5 sizesD rfl HM.out.1 _ _ rfl (Maps.keyOf_int_mk Try.underlying3 HNUM.out) ?_; intro c hat hwc; obtain rfl := look_eq hat HAT.out; clear hat hwc; rw [HHAS.out]) | (go_at_call 19; refine (number_any s _ hs).mono ?_; rintro e w5 ⟨rfl, hb⟩; have HX := Aside0.mk (SI_of HM.out hb); clear HM hb; obtain ⟨⟨q0, q1, q2, q3, q4, q5⟩, f0, f1, f2, f3, f4, f5⟩ := six_cell HX.out.1))
  go_ret
  rw [show setF p 9 s = ({ p with t := numS s }, ((s.size : Int) == 1)) from rfl]
  exact ⟨rfl, SI_set HX.out (by simp [World.setCell, Array.getElem?_modify, HX.out.1])⟩
set_option maxHeartbeats 8000000 in
set_option maxRecDepth 100000 in
theorem set_10 (g : Nat) (p : XP) (s : ByteArray) (w : World) (hs : s.size ≤ 9223372036854775807) (hg : w.heap[g]? = some (.cells #[.bool p.wd, .bool p.sr, .int .i64 p.n, .int .i64 p.k, .int .i64 p.t, .int .i64 p.m] 23 (0, 0))) :
    Calls Try.prog 21 #[.pointer (some ⟨g, 0, none⟩), .int .i64 10, .string s] w fun e w' => e = .returned (.bool (setF p 10 s).2) ∧ SI w g (setF p 10 s).1 w' := by
  have hu23 := Try.underlying23
  have hu50 := Try.underlying50
  have hlt := lt_of_blk9 hg
  have HLT := Aside0.mk hlt
  have HNUM := Aside0.mk (show (Lit.int .i64 10).wf = true by decide)
  have HM := Aside0.mk (show MI w g p 0 (.map []) (w.alloc (.map #[] 0)) from ⟨World.ownsMap_made (H := Unit) w Try.prog 3 (plainElem Try.prog 3), (Below.heap_alloc w _ g hlt).trans hg, (Below.refl w.heap.size w).alloc (Nat.le_refl _) _⟩)
  have hmm := @run_makeMap Try.prog
  clear hlt hg
  have HAT := Aside0.mk at_10
  have HHAS := Aside0.mk has_10
  go_enter Try.func21, Try.ntmps21
  go_wp2_with (first | (refine wpList_insert_own (H := Unit) _ rfl _ _ _ 50 rfl 3 3 key3 Try.underlying50 (plainElem Try.prog 3) w.heap.size _ _ rfl HM.out.1 (by show _ < 9223372036854775807; omega) _ _ _ rfl rfl (Maps.keyOf_int_mk Try.underlying3 (by decide)) _ [] (plainElem_int Try.underlying3 (by decide)) ?_; intro w1 hown1 hg1; have HM1 := Aside0.mk (MI_put HLT.out HM.out hown1 hg1); clear HM hown1 hg1; have HM := HM1; clear HM1) | (at_lookup; refine wpList_lookup_own_ok_int _ rfl _ _ 50 rfl 3 3 .i64 key3 Try.underlying50 Try.underlying3 (zero3 _) w.heap.size 5 sizesD rfl HM.out.1 _ _ rfl (Maps.keyOf_int_mk Try.underlying3 HNUM.out) ?_; intro c hat hwc; obtain rfl := look_eq hat HAT.out; clear hat hwc; rw [HHAS.out]) | (go_at_call 19; refine (number_any s _ hs).mono ?_; rintro e w5 ⟨rfl, hb⟩; have HX := Aside0.mk (SI_of HM.out hb); clear HM hb; obtain ⟨⟨q0, q1, q2, q3, q4, q5⟩, f0, f1, f2, f3, f4, f5⟩ := six_cell HX.out.1))
  go_ret
  rw [show setF p 10 s = ({ p with m := numS s }, ((s.size : Int) == 1)) from rfl]
  exact ⟨rfl, SI_set HX.out (by simp [World.setCell, Array.getElem?_modify, HX.out.1])⟩
set_option maxHeartbeats 8000000 in
set_option maxRecDepth 100000 in
theorem set_o (g : Nat) (p : XP) (num : Int) (h3 : num ≠ 3) (h6 : num ≠ 6) (h8 : num ≠ 8) (h9 : num ≠ 9) (h10 : num ≠ 10) (s : ByteArray) (w : World) (hs : s.size ≤ 9223372036854775807) (hnum : (Lit.int .i64 num).wf = true) (hg : w.heap[g]? = some (.cells #[.bool p.wd, .bool p.sr, .int .i64 p.n, .int .i64 p.k, .int .i64 p.t, .int .i64 p.m] 23 (0, 0))) :
    Calls Try.prog 21 #[.pointer (some ⟨g, 0, none⟩), .int .i64 num, .string s] w fun e w' => e = .returned (.bool (setF p num s).2) ∧ SI w g (setF p num s).1 w' := by
  have hu23 := Try.underlying23
  have hu50 := Try.underlying50
  have hlt := lt_of_blk9 hg
  have HLT := Aside0.mk hlt
  have HNUM := Aside0.mk hnum
  have HM := Aside0.mk (show MI w g p 0 (.map []) (w.alloc (.map #[] 0)) from ⟨World.ownsMap_made (H := Unit) w Try.prog 3 (plainElem Try.prog 3), (Below.heap_alloc w _ g hlt).trans hg, (Below.refl w.heap.size w).alloc (Nat.le_refl _) _⟩)
  have hmm := @run_makeMap Try.prog
  clear hlt hg hnum
  have HS := Aside0.mk (show setF p num s = (p, true) by unfold setF; rw [if_neg h3, if_neg h6, if_neg h8, if_neg h9, if_neg h10])
  have HHAS := Aside0.mk (sizes_other h3 h6 h8 h9 h10)
  rw [HS.out]
  clear h3 h6 h8 h9 h10
  go_enter Try.func21, Try.ntmps21
  go_wp2_with (first | (refine wpList_insert_own (H := Unit) _ rfl _ _ _ 50 rfl 3 3 key3 Try.underlying50 (plainElem Try.prog 3) w.heap.size _ _ rfl HM.out.1 (by show _ < 9223372036854775807; omega) _ _ _ rfl rfl (Maps.keyOf_int_mk Try.underlying3 (by decide)) _ [] (plainElem_int Try.underlying3 (by decide)) ?_; intro w1 hown1 hg1; have HM1 := Aside0.mk (MI_put HLT.out HM.out hown1 hg1); clear HM hown1 hg1; have HM := HM1; clear HM1) | (at_lookup; refine wpList_lookup_own_ok_int _ rfl _ _ 50 rfl 3 3 .i64 key3 Try.underlying50 Try.underlying3 (zero3 _) w.heap.size 5 sizesD rfl HM.out.1 _ _ rfl (Maps.keyOf_int_mk Try.underlying3 HNUM.out) ?_; intro c hat hwc; clear hat hwc; rw [show Maps.has sizesD (Lit.int .i64 num) = false from HHAS.out]))
  go_ret
  exact ⟨rfl, SI_of HM.out (Below.refl _ _)⟩
theorem set_any (g : Nat) (p : XP) (num : Int) (s : ByteArray) (w : World) (hs : s.size ≤ 9223372036854775807) (hnum : (Lit.int .i64 num).wf = true) (hg : w.heap[g]? = some (.cells #[.bool p.wd, .bool p.sr, .int .i64 p.n, .int .i64 p.k, .int .i64 p.t, .int .i64 p.m] 23 (0, 0))) :
    Calls Try.prog 21 #[.pointer (some ⟨g, 0, none⟩), .int .i64 num, .string s] w fun e w' => e = .returned (.bool (setF p num s).2) ∧ SI w g (setF p num s).1 w' := by
  by_cases h3 : num = 3
  · subst h3; exact set_3 g p s w hs hg
  by_cases h6 : num = 6
  · subst h6; exact set_6 g p s w hs hg
  by_cases h8 : num = 8
  · subst h8; exact set_8 g p s w hs hg
  by_cases h9 : num = 9
  · subst h9; exact set_9 g p s w hs hg
  by_cases h10 : num = 10
  · subst h10; exact set_10 g p s w hs hg
  exact set_o g p num h3 h6 h8 h9 h10 s w hs hnum hg
end Go.Proofs.Ytpmieapgbdbabaa.QXidPuts
end

section
/- xid.Get, walked by hand on the bytes that are some parameters': these are told, and OK. -/
set_option linter.unusedVariables false
set_option linter.unusedSimpArgs false
namespace Go.Proofs.Ytpmieapgbdbabaa.QXidPuts
open Go.RowKit Go.Proofs.YtpmieapgbdbabaaW.PrintWords Go.Proofs.YtpmieapgbdbabaaW.PrintLast Go.Proofs.YtpmieapgbdbabaaW.PrintMore

def xmost (wd sr : Bool) : Int := if wd = true then (if sr = true then 32 else 63) else (if sr = true then 4 else 7)
theorem xin_eq (a lo hi : Int) : xid_in.f a lo hi = some (decide (lo ≤ a ∧ a ≤ hi)) := by
  unfold xid_in.f
  by_cases h1 : lo ≤ a
  · rw [if_pos h1]; simp [h1]
  · rw [if_neg h1]; simp [h1]
theorem xmost_eq (wd sr : Bool) : xid_Most.f wd sr = some (xmost wd sr) := by cases wd <;> cases sr <;> rfl
def xrB (wd sr : Bool) (n k t m : Int) : Bool := decide (16 ≤ n ∧ n ≤ 256) && (decide (1 ≤ k ∧ k ≤ xmost wd sr) && (decide (4 ≤ t ∧ t ≤ 255) && decide (1 ≤ m ∧ m ≤ 15)))
theorem xright_eq (wd sr : Bool) (n k t m : Int) : xid_Right.f wd sr n k t m = some (xrB wd sr n k t m) := by
  unfold xid_Right.f xrB
  rw [xmost_eq, xin_eq, xin_eq, xin_eq]
  simp only [Option.bind_some, xin_eq]
  cases decide (16 ≤ n ∧ n ≤ 256) <;> cases decide (1 ≤ k ∧ k ≤ xmost wd sr) <;> cases decide (4 ≤ t ∧ t ≤ 255) <;> simp
/-- The bytes of the next parameter, and the rest. -/
def pbytes (rest : ByteArray) : ByteArray := rest.extract 2 (2 + bt rest 1).toNat
def prest (rest : ByteArray) : ByteArray := rest.extract (2 + bt rest 1).toNat rest.size
/-- What Get reads of the bytes, if they are right to the end. -/
def xgetO : Nat → ByteArray → XP → List Int → Option XP
  | 0, _, _, _ => none
  | f + 1, rest, p, seen =>
    if rest.size = 0 then (if xrB p.wd p.sr p.n p.k p.t p.m = true then some p else none)
    else if 2 ≤ rest.size ∧ bt rest 1 ≤ (rest.size : Int) - 2 ∧ seen.contains (bt rest 0) = false ∧ (setF p (bt rest 0) (pbytes rest)).2 = true then
      xgetO f (prest rest) (setF p (bt rest 0) (pbytes rest)).1 (seen ++ [bt rest 0])
    else none
def xusual : XP := ⟨false, false, 64, 4, 20, 5⟩
def xid_Get.f (s : ByteArray) : Option (Bool × Bool × Int × Int × Int × Int × Int) :=
  if 4 ≤ s.size ∧ s.size ≤ 1000000 ∧ strings_HasPrefix.f s ⟨#[130, 128]⟩ = some true ∧ numS (s.extract 2 4) = ((s.extract 4 s.size).size : Int) then
    (xgetO (s.size + 1) (s.extract 4 s.size) xusual []).map fun p => (p.wd, p.sr, p.n, p.k, p.t, p.m, 0)
  else none
theorem zero4 (w : World) : (zeroValue 4).run Try.prog w = .ok (.bool false) w := by kernel_rfl
theorem plainElem_bool_inv {H : Type} {P : Program} {e : TypeId} (he : P.underlying e = some .bool) {v : Value} {x : Bool} {ps : List MemPlace} (h : plainElem (H := H) P e v = some (.lit (.bool x), ps)) : v = .bool x := by
  unfold plainElem at h
  rw [he] at h
  cases v <;> simp at h
  rw [h.1]
/-- What the map tells of numbers. -/
def Tells (D : DataW Unit) (seen : List Int) : Prop := ∀ n : Int, (Lit.int .i64 n).wf = true → D.atKey (kl n) (.lit (.bool false)) = .lit (.bool (seen.contains n))
theorem key_lit {n : Int} (h : (Lit.int .i64 n).wf = true) : WideAt.IsKeyLit (kl n) := key3.key (Maps.keyOf_int_mk Try.underlying3 h)
theorem tells_put {D : DataW Unit} {seen : List Int} (hD : Maps.IsMap D) (h : Tells D seen) (c : Int) (hc : (Lit.int .i64 c).wf = true) : Tells (D.put (kl c) (.lit (.bool true))) (seen ++ [c]) := by
  intro n hn
  by_cases he : n = c
  · subst he
    rw [Maps.atKey_put_same hD (key_lit hn)]
    simp
  · have hne : kl n ≠ kl c := fun e => he (by injection e)
    rw [Maps.atKey_put_other hne, h n hn]
    simp [he]
/-- The result's block, the parameters', the map, and that nothing older has turned. -/
def GI (w : World) (Pb Mb : Nat) (p : XP) (j : Nat) (D : DataW Unit) (W : World) : Prop :=
  W.heap[w.heap.size]? = some (.cells #[.bool false, .bool false, .int .i64 0, .int .i64 0, .int .i64 0, .int .i64 0] 23 (0, 0)) ∧
  W.heap[Pb]? = some (.cells #[.bool p.wd, .bool p.sr, .int .i64 p.n, .int .i64 p.k, .int .i64 p.t, .int .i64 p.m] 23 (0, 0)) ∧
  W.ownsMap Try.prog 3 (plainElem Try.prog 4) Mb j D ∧ Below w.heap.size w W
theorem GI_drew {w : World} {Pb Mb : Nat} {p : XP} {j : Nat} {D : DataW Unit} {W : World} (h : GI w Pb Mb p j D W) (n : Nat) : GI w Pb Mb p j D (W.drewN n) :=
  ⟨h.1, h.2.1, h.2.2.1.kept (row := none) ⟨rfl, rfl, rfl, Nat.le_refl _, fun k _ _ => rfl⟩ (by simp), h.2.2.2.trans ⟨rfl, rfl, rfl, Nat.le_refl _, fun _ _ => rfl⟩⟩
theorem GI_set {w : World} {Pb : Nat} {p p' : XP} {j : Nat} {D : DataW Unit} {W W' : World} (hlt : w.heap.size < Pb) (h : GI w Pb (Pb + 1) p j D W) (hs : SI W Pb p' W') : GI w Pb (Pb + 1) p' j D W' :=
  ⟨(hs.2.block _ (lt_of_blk9 h.1) (by simp; omega)).trans h.1, hs.1, h.2.2.1.kept hs.2 (by simp), h.2.2.2.grown hs.2 h.2.2.2.size (fun k e => by cases e; omega)⟩
theorem GI_put {w : World} {Pb : Nat} {p : XP} {j : Nat} {D D' : DataW Unit} {W W' : World} (hlt : w.heap.size < Pb) (h : GI w Pb (Pb + 1) p j D W) (ho : W'.ownsMap Try.prog 3 (plainElem Try.prog 4) (Pb + 1) (j + 1) D') (hg : W.grownBy W' (some (Pb + 1))) : GI w Pb (Pb + 1) p (j + 1) D' W' :=
  ⟨(hg.block _ (lt_of_blk9 h.1) (by simp; omega)).trans h.1, (hg.block _ (lt_of_blk9 h.2.1) (by simp)).trans h.2.1, ho, h.2.2.2.grown hg h.2.2.2.size (fun k e => by cases e; omega)⟩
theorem six_set {w : World} {g : Nat} {a0 a1 a2 a3 a4 a5 x0 x1 x2 x3 x4 x5 : Value} {t : TypeId} (h : w.heap[g]? = some (.cells #[a0, a1, a2, a3, a4, a5] t (0, 0))) :
    ((((((w.setCell ⟨g, 0, none⟩ x0).setCell ⟨g, 1, none⟩ x1).setCell ⟨g, 2, none⟩ x2).setCell ⟨g, 3, none⟩ x3).setCell ⟨g, 4, none⟩ x4).setCell ⟨g, 5, none⟩ x5).heap[g]? = some (.cells #[x0, x1, x2, x3, x4, x5] t (0, 0)) := by
  simp [World.setCell, Array.getElem?_modify, h]
theorem six_below {n : Nat} {w W : World} {g : Nat} (h : Below n w W) (hg : n ≤ g) (x0 x1 x2 x3 x4 x5 : Value) :
    Below n w ((((((W.setCell ⟨g, 0, none⟩ x0).setCell ⟨g, 1, none⟩ x1).setCell ⟨g, 2, none⟩ x2).setCell ⟨g, 3, none⟩ x3).setCell ⟨g, 4, none⟩ x4).setCell ⟨g, 5, none⟩ x5) :=
  (((((h.setCell hg _).setCell hg _).setCell hg _).setCell hg _).setCell hg _).setCell hg _
def strLen : Value → Nat
  | .string s => s.size
  | _ => 0
set_option maxHeartbeats 8000000 in
set_option maxRecDepth 100000 in
theorem xid_Get.calls (a0 : ByteArray) (r0 r1 : Bool) (r2 r3 r4 r5 r6 : Int) (w : World) (h : xid_Get.f a0 = some (r0, r1, r2, r3, r4, r5, r6)) :
    Calls Try.prog 13 #[.string a0] w fun e w' => e = .returned (.tuple #[.agg #[.bool r0, .bool r1, .int .i64 r2, .int .i64 r3, .int .i64 r4, .int .i64 r5], .int .i64 r6]) ∧ Below w.heap.size w w' := by
  unfold xid_Get.f at h
  split at h
  case isFalse => cases h
  rename_i hs
  obtain ⟨h4, hmx, hpre, hsz⟩ := hs
  obtain ⟨q, hq, hr⟩ := Option.map_eq_some_iff.1 h
  simp only [Prod.mk.injEq] at hr
  obtain ⟨rfl, rfl, rfl, rfl, rfl, rfl, rfl⟩ := hr
  have HPRE := Aside0.mk hpre
  have HSZ := Aside0.mk hsz
  have HQ := Aside0.mk hq
  have hu23 := Try.underlying23
  have hmm := @run_makeMap Try.prog
  have hx4 : (a0.extract 2 4).size = 2 := by rw [ByteArray.size_extract]; omega
  have hrs : (a0.extract 4 a0.size).size = a0.size - 4 := by rw [ByteArray.size_extract]; omega
  have HX4 := Aside0.mk hx4
  have HRS := Aside0.mk hrs
  clear h hpre hsz hq hx4 hrs
  go_enter Try.func13, Try.ntmps13
  go_wp2_with (fail)
  have hR0 := heap_alloc_new w (.cells #[.bool false, .bool false, .int .i64 0, .int .i64 0, .int .i64 0, .int .i64 0] 23)
  have hB0 := (Below.refl w.heap.size w).alloc (Nat.le_refl _) (.cells #[.bool false, .bool false, .int .i64 0, .int .i64 0, .int .i64 0, .int .i64 0] 23)
  have hlt0 := lt_of_blk9 hR0
  generalize w.alloc (.cells #[.bool false, .bool false, .int .i64 0, .int .i64 0, .int .i64 0, .int .i64 0] 23) = w1 at hR0 hB0 hlt0 ⊢
  refine (number_any (a0.extract 2 4) w1 (by have := HX4.out; omega)).mono ?_
  rintro e w2 ⟨rfl, hb⟩
  have HR2 := Aside0.mk ((hb.block _ hlt0).trans hR0)
  have HB2 := Aside0.mk (below_then hB0 hB0.size hb)
  rw [HSZ.out, HRS.out]
  clear hR0 hB0 hlt0 hb
  go_wp2_with (fail)
  refine (strings_HasPrefix.calls a0 ⟨#[130, 128]⟩ true _ HPRE.out).mono ?_
  rintro e w3 ⟨rfl, hd⟩
  have HR3 := Aside0.mk ((hd.below.block _ (lt_of_blk9 HR2.out)).trans HR2.out)
  have HB3 := Aside0.mk (below_then HB2.out HB2.out.size hd.below)
  clear hd HR2 HB2
  go_wp2_with (fail)
  refine (xid_Usual.calls false false 64 4 20 5 w3 rfl).mono ?_
  rintro e w4 ⟨rfl, hb⟩
  have HR4 := Aside0.mk ((hb.block _ (lt_of_blk9 HR3.out)).trans HR3.out)
  have HB4 := Aside0.mk (below_then HB3.out HB3.out.size hb)
  clear hb HR3 HB3
  have HG := Aside0.mk (show GI w w4.heap.size (w4.heap.size + 1) xusual 0 (.map []) ((w4.alloc (.cells #[.bool false, .bool false, .int .i64 64, .int .i64 4, .int .i64 20, .int .i64 5] 23)).alloc (.map #[] 0)) from
    ⟨(Below.heap_alloc _ _ _ (by simp; have := lt_of_blk9 HR4.out; omega)).trans ((Below.heap_alloc w4 _ _ (lt_of_blk9 HR4.out)).trans HR4.out), (Below.heap_alloc _ _ _ (by simp)).trans (heap_alloc_new w4 _),
      by have h' := World.ownsMap_made (H := Unit) (w4.alloc (.cells #[.bool false, .bool false, .int .i64 64, .int .i64 4, .int .i64 20, .int .i64 5] 23)) Try.prog 3 (plainElem Try.prog 4); rw [World.size_alloc] at h'; exact h', (HB4.out.alloc HB4.out.size _).alloc (by simp; have := HB4.out.size; omega) _⟩)
  have HLT := Aside0.mk (show w.heap.size < w4.heap.size from lt_of_blk9 HR4.out)
  clear HR4 HB4
  go_wp2_with (fail)
  generalize (w4.alloc (.cells #[.bool false, .bool false, .int .i64 64, .int .i64 4, .int .i64 20, .int .i64 5] 23)).alloc (.map #[] 0) = w5 at HG ⊢
  go_loopw [5, 8, 9] (fun v5 v8 v9 wr => ∃ (f : Nat) (rest : ByteArray) (p : XP) (seen : List Int) (j : Nat) (D : DataW Unit), v5 = .string rest ∧ rest.size < f ∧ j + rest.size ≤ 1000000 ∧ Aside0 (xgetO f rest p seen = some q) ∧ Aside0 (GI w w4.heap.size (w4.heap.size + 1) p j D wr) ∧ Aside0 (Tells D seen)) (fun v5 v8 v9 _ => strLen v5)
  case atStart =>
    exact ⟨_, _, xusual, [], 0, _, rfl, by rw [HRS.out]; omega, by rw [HRS.out]; omega, HQ, HG, ⟨fun n _ => rfl⟩⟩
  case round =>
    clear HG HQ HPRE HX4 HRS HSZ
    obtain ⟨f, rest, p, seen, j, D, rfl, hf, hj, HQ, HG, HTL⟩ := hrel
    obtain ⟨f, rfl⟩ : ∃ k, f = k + 1 := ⟨f - 1, by omega⟩
    obtain ⟨⟨q0, q1, q2, q3, q4, q5⟩, _⟩ := six_cell HG.out.2.1
    by_cases h0 : rest.size = 0
    · have hq := HQ.out
      rw [xgetO, if_pos h0] at hq
      by_cases hx : xrB p.wd p.sr p.n p.k p.t p.m = true
      · rw [if_pos hx] at hq
        obtain rfl := Option.some.inj hq
        have HRT := Aside0.mk (show xid_Right.f p.wd p.sr p.n p.k p.t p.m = some true by rw [xright_eq, hx])
        have hemp : rest.toList = [] := by
          rw [ByteArray.toList_eq]
          apply List.eq_nil_of_length_eq_zero
          rw [Array.length_toList]
          exact h0
        obtain ⟨⟨z0, z1, z2, z3, z4, z5⟩, f0, f1, f2, f3, f4, f5⟩ := six_cell HG.out.1
        clear hq hx h0 HQ hf hj h4 hmx
        go_wp2_with (fail)
        refine (xid_Right.calls p.wd p.sr p.n p.k p.t p.m true _ HRT.out).mono ?_
        rintro e w6 ⟨rfl, hb⟩
        have HR6 := Aside0.mk ((hb.block _ (lt_of_blk9 HG.out.1)).trans HG.out.1)
        have HP6 := Aside0.mk ((hb.block _ (lt_of_blk9 HG.out.2.1)).trans HG.out.2.1)
        have HB6 := Aside0.mk (below_then HG.out.2.2.2 HG.out.2.2.2.size hb)
        clear HG hb q0 q1 q2 q3 q4 q5 z0 z1 z2 z3 z4 z5 f0 f1 f2 f3 f4 f5 HTL
        obtain ⟨⟨q0, q1, q2, q3, q4, q5⟩, _⟩ := six_cell HP6.out
        obtain ⟨⟨z0, z1, z2, z3, z4, z5⟩, f0, f1, f2, f3, f4, f5⟩ := six_cell HR6.out
        go_wp2_with (fail)
        refine bodyPost_ret (results_ct rfl _ _ w.heap.size 23 #[.bool p.wd, .bool p.sr, .int .i64 p.n, .int .i64 p.k, .int .i64 p.t, .int .i64 p.m] (0, 0) _ rfl (six_set HR6.out) Try.underlying23 rfl (by kernel_rfl)) rfl ?_
        exact ⟨rfl, six_below HB6.out (Nat.le_refl _) _ _ _ _ _ _⟩
      · rw [if_neg hx] at hq
        cases hq
    · have hq := HQ.out
      rw [xgetO, if_neg h0] at hq
      split at hq
      case isFalse => cases hq
      rename_i hc
      obtain ⟨h2, hb1, hse, hset⟩ := hc
      have HN := Aside0.mk hq
      have HSE := Aside0.mk hse
      have HSET := Aside0.mk hset
      have hr0 := bt_range rest 0
      have hr1 := bt_range rest 1
      have hne : (rest.toList == []) = false := by
        rw [beq_eq_false_iff_ne]
        intro e
        apply h0
        rw [ByteArray.toList_eq] at e
        have : rest.data.toList.length = 0 := by rw [e]; rfl
        rw [Array.length_toList] at this
        exact this
      have hd1 : decide ((rest.size : Int) < 2) = false := decide_eq_false (by omega)
      have hd2 : decide ((rest.size : Int) - 2 < bt rest 1) = false := decide_eq_false (by omega)
      have e0 : ∀ h : 0 < rest.size, (((rest[0]'h).toNat : Nat) : Int) = bt rest 0 := bt_at rest 0
      have e1 : ∀ h : 1 < rest.size, (((rest[1]'h).toNat : Nat) : Int) = bt rest 1 := bt_at rest 1
      have hi1 : (1 : Int) < (rest.size : Int) := by omega
      have hi0 : (0 : Int) < (rest.size : Int) := by omega
      clear hq hse hset HQ h4 hmx
      go_wp2_with (fail)
      have hwf : (Lit.int .i64 (bt rest 0)).wf = true := WalkArith.wf_i64 (by omega)
      have HWF := Aside0.mk hwf
      have hkey := Maps.keyOf_int_mk Try.underlying3 hwf
      have hval := plainElem_bool (H := Unit) Try.underlying4 true
      have hps : (pbytes rest).size ≤ 9223372036854775807 := by unfold pbytes; rw [ByteArray.size_extract]; omega
      have HPS := Aside0.mk hps
      have HKEY := Aside0.mk hkey
      have hss : (prest rest).size + 2 ≤ rest.size := by unfold prest; rw [ByteArray.size_extract]; omega
      have HSS := Aside0.mk hss
      have hjm : j < maxLen := by have : maxLen = 9223372036854775807 := rfl; omega
      have hA : (2 : Int) ≤ 2 + bt rest 1 := by omega
      have hB : 2 + bt rest 1 ≤ (rest.size : Int) := by omega
      have hC : (0 : Int) ≤ 2 + bt rest 1 := by omega
      have hD : (0 : Int) ≤ bt rest 1 := by omega
      clear hwf hkey hps hss
      as_aux_lemma =>
        go_quiet (fail)
        have HG1 := Aside0.mk (GI_drew HG.out nq)
        clear HG q0 q1 q2 q3 q4 q5
        generalize wr.drewN nq = w6 at HG1 ⊢
        obtain ⟨v, ps, hrun, hv⟩ := HG1.out.2.2.1.lookup key3 Try.underlying46 (zero4 w6) (plainElem_bool Try.underlying4 false) HKEY.out
        rw [show D.atKey (Lit.int .i64 (bt rest 0)) (.lit (.bool false)) = .lit (.bool (seen.contains (bt rest 0))) from HTL.out (bt rest 0) HWF.out, HSE.out] at hv
        obtain rfl := plainElem_bool_inv Try.underlying4 hv
        clear hv
        go_wp2_with (first | (go_at_call 21; refine (set_any w4.heap.size p (bt rest 0) (pbytes rest) _ HPS.out HWF.out HG1.out.2.1).mono ?_; rintro e w7 ⟨rfl, hsi⟩; rw [HSET.out]; have HG2 := Aside0.mk (GI_set HLT.out HG1.out hsi); clear HG1 hsi hrun) | (at_mapUpdate; refine wpList_mapUpdate_own _ rfl _ _ _ 46 rfl 3 4 key3 Try.underlying46 _ (w4.heap.size + 1) j D rfl HG2.out.2.2.1 hjm _ _ (kl (bt rest 0)) rfl rfl HKEY.out (.lit (.bool true)) [] hval ?_; intro w8 hown8 hgrow8))
        exact ⟨⟨f, prest rest, (setF p (bt rest 0) (pbytes rest)).1, seen ++ [bt rest 0], j + 1, _, rfl, by have := HSS.out; omega, by have := HSS.out; omega, HN, ⟨GI_put HLT.out HG2.out hown8 hgrow8⟩, ⟨tells_put HG2.out.2.2.1.isMap HTL.out _ HWF.out⟩⟩, by have := HSS.out; show (prest rest).size < rest.size; omega⟩
end Go.Proofs.Ytpmieapgbdbabaa.QXidPuts
end

section
/- Walks, written by a program of this session (wip/pp): a Go function comes to what the Lean function beside it tells. -/
namespace Go.Proofs.Ytpmieapgbdbabaa.QXidPuts
open Go.RowKit Go.Proofs.YtpmieapgbdbabaaW.PrintWords Go.Proofs.YtpmieapgbdbabaaW.PrintLast Go.Proofs.YtpmieapgbdbabaaW.PrintMore
attribute [local go_sem] max2_int min2_int max_two min_two max_three min_three max_four min_four
set_option linter.unusedVariables false
set_option linter.unusedSimpArgs false

attribute [local go_sem high] eqA23
def squelchlaw08_XidPuts.j0 : Nat → Bool → ByteArray → Int → Bool → Bool → Bool → Int → Int → Int → Int → Bool → Bool → Int → Int → Int → Int → Option (Bool)
 | 0, _, _, _, _, _, _, _, _, _, _, _, _, _, _, _, _ => none
 | k + 1, x4, x5, x6, x35, x169000, x169001, x169002, x169003, x169004, x169005, x171000, x171001, x171002, x171003, x171004, x171005 => if x35 = true then (some false) else (if x4 = true then ((xid_Get.f x5).bind fun bt177 => (if x6 = 0 then ((squelchref08_Put.f k x171000 x171001 x171002 x171003 x171004 x171005).bind fun t185 => (if x5.toList = t185.toList then (if bt177.2.2.2.2.2.2 = 0 then (some (bt177.1 == x169000 && (bt177.2.1 == x169001 && (bt177.2.2.1 == x169002 && (bt177.2.2.2.1 == x169003 && (bt177.2.2.2.2.1 == x169004 && (bt177.2.2.2.2.2.1 == x169005))))))) else (some false)) else (some false))) else (some false))) else (if x5.toList = ([] : List UInt8) then (some (x6 == 1)) else (some false)))
def squelchlaw08_XidPuts.f (k : Nat) (a0_0 : Bool) (a0_1 : Bool) (a0_2 : Int) (a0_3 : Int) (a0_4 : Int) (a0_5 : Int) : Option (Bool) := (squelchlaw08_awake.f k).bind fun t169 => (if t169 = true then ((squelchref08_Right.f k a0_0 a0_1 a0_2 a0_3 a0_4 a0_5).bind fun t171 => ((xid_Put.f k a0_0 a0_1 a0_2 a0_3 a0_4 a0_5).bind fun bt172 => ((xid_Right.f a0_0 a0_1 a0_2 a0_3 a0_4 a0_5).bind fun t174 => (if (t174 != t171) = true then (squelchlaw08_XidPuts.j0 k t171 bt172.1 bt172.2 true a0_0 a0_1 a0_2 a0_3 a0_4 a0_5 a0_0 a0_1 a0_2 a0_3 a0_4 a0_5) else ((xid_Most.f a0_0 a0_1).bind fun t175 => ((squelchref08_Most.f k a0_0 a0_1).bind fun t176 => (squelchlaw08_XidPuts.j0 k t171 bt172.1 bt172.2 (t175 != t176) a0_0 a0_1 a0_2 a0_3 a0_4 a0_5 a0_0 a0_1 a0_2 a0_3 a0_4 a0_5))))))) else (some false))
def squelchlaw08_XidPuts.T6 : Bool × List (List Nat × List Nat) := (true, [([], []), ([0], [0]), ([], []), ([1, 2], [1, 2]), ([3, 1], [3]), ([4], [4]), ([5, 4], [4, 5]), ([4], [4]), ([7, 4], [4, 7]), ([6, 8, 4, 4], [4, 6, 8]), ([4], [4]), ([10, 4], [4, 10]), ([4], [4]), ([12, 4], [4, 12]), ([11, 13, 9, 4], [4, 11, 13]), ([9, 14, 4], [4, 9, 14]), ([4, 15], [4, 15])])
def squelchlaw08_XidPuts.B6 : List Nat := [0, 1, 0, 7, 15, 31, 63, 31, 159, 511, 31, 1055, 31, 4127, 16383, 32767, 65535]
theorem squelchlaw08_XidPuts.tab6 : rtab .any (opsOf Try.f4 6) = squelchlaw08_XidPuts.T6 := by kernel_rfl
theorem squelchlaw08_XidPuts.bits6 : waitsOk squelchlaw08_XidPuts.T6.2 squelchlaw08_XidPuts.B6 = true := by kernel_rfl
set_option maxHeartbeats 8000000 in
set_option maxRecDepth 100000 in
theorem squelchlaw08_XidPuts.calls (k : Nat) (a0_0 : Bool) (a0_1 : Bool) (a0_2 : Int) (a0_3 : Int) (a0_4 : Int) (a0_5 : Int) (r : Bool) (w : World) (hT_ : r = true) (h : squelchlaw08_XidPuts.f k a0_0 a0_1 a0_2 a0_3 a0_4 a0_5 = some r) :
  Calls Try.prog 4 #[.agg #[.bool a0_0, .bool a0_1, .int .i64 a0_2, .int .i64 a0_3, .int .i64 a0_4, .int .i64 a0_5]] w fun e w' => e = .returned (.bool r) ∧ Below w.heap.size w w' := by
 have hu23 := Try.underlying23
 have hu29 := Try.underlying29
 have HB := Aside0.mk (Below.refl w.heap.size w)
 have HT_ := Aside0.mk hT_
 clear hT_
 have H : ((squelchlaw08_awake.f k).bind fun t169 => (if t169 = true then ((squelchref08_Right.f k a0_0 a0_1 a0_2 a0_3 a0_4 a0_5).bind fun t171 => ((xid_Put.f k a0_0 a0_1 a0_2 a0_3 a0_4 a0_5).bind fun bt172 => ((xid_Right.f a0_0 a0_1 a0_2 a0_3 a0_4 a0_5).bind fun t174 => (if (t174 != t171) = true then (squelchlaw08_XidPuts.j0 k t171 bt172.1 bt172.2 true a0_0 a0_1 a0_2 a0_3 a0_4 a0_5 a0_0 a0_1 a0_2 a0_3 a0_4 a0_5) else ((xid_Most.f a0_0 a0_1).bind fun t175 => ((squelchref08_Most.f k a0_0 a0_1).bind fun t176 => (squelchlaw08_XidPuts.j0 k t171 bt172.1 bt172.2 (t175 != t176) a0_0 a0_1 a0_2 a0_3 a0_4 a0_5 a0_0 a0_1 a0_2 a0_3 a0_4 a0_5))))))) else (some false))) = some r := h
 clear h
 replace H := Option.bind_eq_some_iff.mp H
 obtain ⟨t169, A20, H⟩ := H
 replace H : (if t169 = true then ((squelchref08_Right.f k a0_0 a0_1 a0_2 a0_3 a0_4 a0_5).bind fun t171 => ((xid_Put.f k a0_0 a0_1 a0_2 a0_3 a0_4 a0_5).bind fun bt172 => ((xid_Right.f a0_0 a0_1 a0_2 a0_3 a0_4 a0_5).bind fun t174 => (if (t174 != t171) = true then (squelchlaw08_XidPuts.j0 k t171 bt172.1 bt172.2 true a0_0 a0_1 a0_2 a0_3 a0_4 a0_5 a0_0 a0_1 a0_2 a0_3 a0_4 a0_5) else ((xid_Most.f a0_0 a0_1).bind fun t175 => ((squelchref08_Most.f k a0_0 a0_1).bind fun t176 => (squelchlaw08_XidPuts.j0 k t171 bt172.1 bt172.2 (t175 != t176) a0_0 a0_1 a0_2 a0_3 a0_4 a0_5 a0_0 a0_1 a0_2 a0_3 a0_4 a0_5))))))) else (some false)) = some r := H
 have A2 := Aside0.mk A20
 clear A20
 by_cases c3 : t169 = true
 ·subst c3
  have H1 : ((squelchref08_Right.f k a0_0 a0_1 a0_2 a0_3 a0_4 a0_5).bind fun t171 => ((xid_Put.f k a0_0 a0_1 a0_2 a0_3 a0_4 a0_5).bind fun bt172 => ((xid_Right.f a0_0 a0_1 a0_2 a0_3 a0_4 a0_5).bind fun t174 => (if (t174 != t171) = true then (squelchlaw08_XidPuts.j0 k t171 bt172.1 bt172.2 true a0_0 a0_1 a0_2 a0_3 a0_4 a0_5 a0_0 a0_1 a0_2 a0_3 a0_4 a0_5) else ((xid_Most.f a0_0 a0_1).bind fun t175 => ((squelchref08_Most.f k a0_0 a0_1).bind fun t176 => (squelchlaw08_XidPuts.j0 k t171 bt172.1 bt172.2 (t175 != t176) a0_0 a0_1 a0_2 a0_3 a0_4 a0_5 a0_0 a0_1 a0_2 a0_3 a0_4 a0_5))))))) = some r := by rw [if_pos rfl] at H; exact H
  clear H
  have H := H1
  clear H1
  replace H := Option.bind_eq_some_iff.mp H
  obtain ⟨t171, A40, H⟩ := H
  replace H : ((xid_Put.f k a0_0 a0_1 a0_2 a0_3 a0_4 a0_5).bind fun bt172 => ((xid_Right.f a0_0 a0_1 a0_2 a0_3 a0_4 a0_5).bind fun t174 => (if (t174 != t171) = true then (squelchlaw08_XidPuts.j0 k t171 bt172.1 bt172.2 true a0_0 a0_1 a0_2 a0_3 a0_4 a0_5 a0_0 a0_1 a0_2 a0_3 a0_4 a0_5) else ((xid_Most.f a0_0 a0_1).bind fun t175 => ((squelchref08_Most.f k a0_0 a0_1).bind fun t176 => (squelchlaw08_XidPuts.j0 k t171 bt172.1 bt172.2 (t175 != t176) a0_0 a0_1 a0_2 a0_3 a0_4 a0_5 a0_0 a0_1 a0_2 a0_3 a0_4 a0_5)))))) = some r := H
  have A4 := Aside0.mk A40
  clear A40
  replace H := Option.bind_eq_some_iff.mp H
  obtain ⟨⟨t172, t173⟩, A50, H⟩ := H
  replace H : ((xid_Right.f a0_0 a0_1 a0_2 a0_3 a0_4 a0_5).bind fun t174 => (if (t174 != t171) = true then (squelchlaw08_XidPuts.j0 k t171 t172 t173 true a0_0 a0_1 a0_2 a0_3 a0_4 a0_5 a0_0 a0_1 a0_2 a0_3 a0_4 a0_5) else ((xid_Most.f a0_0 a0_1).bind fun t175 => ((squelchref08_Most.f k a0_0 a0_1).bind fun t176 => (squelchlaw08_XidPuts.j0 k t171 t172 t173 (t175 != t176) a0_0 a0_1 a0_2 a0_3 a0_4 a0_5 a0_0 a0_1 a0_2 a0_3 a0_4 a0_5))))) = some r := H
  have A5 := Aside0.mk A50
  clear A50
  have HC6 := Aside0.mk H
  clear H
  go_enter Try.func4, Try.ntmps4
  go_upto_region 6 with (first | ((with_reducible refine gate_dst (N := 1) rfl ?_); refine box_event ?hg (N := 1) ?hd (cs := #[.bool a0_0, .bool a0_1, .int .i64 a0_2, .int .i64 a0_3, .int .i64 a0_4, .int .i64 a0_5]) (t := 23) ?hr ?_; (case hd => rfl); (case hg => rfl); (case hr => first | (go_simp; done) | (go_simp; rfl)); intro gb168 hg w7 hbox hb; have n0_ := Aside0.mk (below_step (by repeat (first | (with_reducible first | exact HB.out | apply below_alloc | apply pw_below_drewN | apply below_drew1) | exact HB.out)) hb); have n1_ := Aside0.mk (hbox); have n2_ := Aside0.mk ((by rw [hg]; exact (below_size (by repeat (first | (with_reducible first | exact HB.out | apply below_alloc | apply pw_below_drewN | apply below_drew1) | exact HB.out))) : w.heap.size ≤ gb168)); have n3_ := Aside0.mk ((by rw [hg]; exact (below_size (by repeat (first | (with_reducible first | exact HB.out | apply below_alloc | apply pw_below_drewN | apply below_drew1) | exact HB.out))) : w.heap.size ≤ gb168)); clear HB; have HB := n0_; have BK168 := n1_; have GW168 := n2_; have GE168 := n3_; clear n0_ n1_ n2_ n3_; clear hb hbox hg) | ((with_reducible refine gate_callee (f := 5) rfl ?_); refine goesL_ (some 9) rfl rfl Try.func5 (by kernel_rfl) rfl #[] rfl (by (try simp only [List.map_toArray, List.map_cons, List.map_nil]); first | done | rfl | (simp only [List.length_drop, List.length_take]; rfl)) ?_; (with_reducible refine (squelchlaw08_awake.calls k  true _ A2.out).mono ?_); rintro e w8 ⟨rfl, hb⟩; refine ⟨_, rfl, ?_⟩; have n0_ := Aside0.mk (blk_below (g := gb168) (o := .cells #[.bool a0_0, .bool a0_1, .int .i64 a0_2, .int .i64 a0_3, .int .i64 a0_4, .int .i64 a0_5] 23 (0, 0)) (by (with_reducible repeat (first | refine blk_drewN ?_ _ | refine blk_drew ?_ | refine blk_alloc ?_ _)); exact BK168.out) hb); have n1_ := Aside0.mk (below_step (by repeat (first | (with_reducible first | exact HB.out | apply below_alloc | apply pw_below_drewN | apply below_drew1 | refine below_set ?_ GE168.out) | exact HB.out)) hb); clear BK168; clear HB; have BK168 := n0_; have HB := n1_; clear n0_ n1_; (try clear hb); (try clear hb2); (try clear hk); (try clear hi); have hcz9_0 : w8.cell? ⟨gb168, 0, none⟩ = some (.bool a0_0) := (blk_cell BK168.out 0).trans rfl; have hcz9_1 : w8.cell? ⟨gb168, 1, none⟩ = some (.bool a0_1) := (blk_cell BK168.out 1).trans rfl; have hcz9_2 : w8.cell? ⟨gb168, 2, none⟩ = some (.int .i64 a0_2) := (blk_cell BK168.out 2).trans rfl; have hcz9_3 : w8.cell? ⟨gb168, 3, none⟩ = some (.int .i64 a0_3) := (blk_cell BK168.out 3).trans rfl; have hcz9_4 : w8.cell? ⟨gb168, 4, none⟩ = some (.int .i64 a0_4) := (blk_cell BK168.out 4).trans rfl; have hcz9_5 : w8.cell? ⟨gb168, 5, none⟩ = some (.int .i64 a0_5) := (blk_cell BK168.out 5).trans rfl; have hfz9_0 := blk_frozen BK168.out 0; have hfz9_1 := blk_frozen BK168.out 1; have hfz9_2 := blk_frozen BK168.out 2; have hfz9_3 := blk_frozen BK168.out 3; have hfz9_4 := blk_frozen BK168.out 4; have hfz9_5 := blk_frozen BK168.out 5) | ((with_reducible refine gate_dst (N := 3) rfl ?_); refine box_event ?hg (N := 3) ?hd (cs := #[.bool false, .bool false, .int .i64 0, .int .i64 0, .int .i64 0, .int .i64 0]) (t := 29) ?hr ?_; (case hd => rfl); (case hg => rfl); (case hr => first | (go_simp; done) | (go_simp; rfl)); intro gb170 hg w10 hbox hb; have n0_ := Aside0.mk (blk_below (g := gb168) (o := .cells #[.bool a0_0, .bool a0_1, .int .i64 a0_2, .int .i64 a0_3, .int .i64 a0_4, .int .i64 a0_5] 23 (0, 0)) (by (with_reducible repeat (first | refine blk_drewN ?_ _ | refine blk_drew ?_ | refine blk_alloc ?_ _)); exact BK168.out) hb); have n1_ := Aside0.mk (below_step (by repeat (first | (with_reducible first | exact HB.out | apply below_alloc | apply pw_below_drewN | apply below_drew1 | refine below_set ?_ GE168.out) | exact HB.out)) hb); have n2_ := Aside0.mk (hbox); have n3_ := Aside0.mk ((by rw [hg]; exact (below_size (by repeat (first | (with_reducible first | exact HB.out | apply below_alloc | apply pw_below_drewN | apply below_drew1 | refine below_set ?_ GE168.out) | exact HB.out))) : w.heap.size ≤ gb170)); have n4_ := Aside0.mk ((by rw [hg]; exact (below_size (by repeat (first | (with_reducible first | exact HB.out | apply below_alloc | apply pw_below_drewN | apply below_drew1 | refine below_set ?_ GE168.out) | exact HB.out))) : w.heap.size ≤ gb170)); have n5_ := Aside0.mk ((by rw [hg]; exact Nat.ne_of_lt (blk_lt (g := gb168) (o := .cells #[.bool a0_0, .bool a0_1, .int .i64 a0_2, .int .i64 a0_3, .int .i64 a0_4, .int .i64 a0_5] 23 (0, 0)) (by (with_reducible repeat (first | refine blk_drewN ?_ _ | refine blk_drew ?_ | refine blk_alloc ?_ _)); exact BK168.out)) : gb168 ≠ gb170)); have n6_ := Aside0.mk ((by rw [hg]; exact Nat.ne_of_gt (blk_lt (g := gb168) (o := .cells #[.bool a0_0, .bool a0_1, .int .i64 a0_2, .int .i64 a0_3, .int .i64 a0_4, .int .i64 a0_5] 23 (0, 0)) (by (with_reducible repeat (first | refine blk_drewN ?_ _ | refine blk_drew ?_ | refine blk_alloc ?_ _)); exact BK168.out)) : gb170 ≠ gb168)); clear BK168; clear HB; have BK168 := n0_; have HB := n1_; have BK170 := n2_; have GW170 := n3_; have GE170 := n4_; have NB168_170 := n5_; have NB170_168 := n6_; clear n0_ n1_ n2_ n3_ n4_ n5_ n6_; clear hb hbox hg; have hnb11 := NB170_168.out; have hnc11 := NB168_170.out; have hcz12_0 : w10.cell? ⟨gb170, 0, none⟩ = some (.bool false) := (blk_cell BK170.out 0).trans rfl; have hcz12_1 : w10.cell? ⟨gb170, 1, none⟩ = some (.bool false) := (blk_cell BK170.out 1).trans rfl; have hcz12_2 : w10.cell? ⟨gb170, 2, none⟩ = some (.int .i64 0) := (blk_cell BK170.out 2).trans rfl; have hcz12_3 : w10.cell? ⟨gb170, 3, none⟩ = some (.int .i64 0) := (blk_cell BK170.out 3).trans rfl; have hcz12_4 : w10.cell? ⟨gb170, 4, none⟩ = some (.int .i64 0) := (blk_cell BK170.out 4).trans rfl; have hcz12_5 : w10.cell? ⟨gb170, 5, none⟩ = some (.int .i64 0) := (blk_cell BK170.out 5).trans rfl; have hfz12_0 := blk_frozen BK170.out 0; have hfz12_1 := blk_frozen BK170.out 1; have hfz12_2 := blk_frozen BK170.out 2; have hfz12_3 := blk_frozen BK170.out 3; have hfz12_4 := blk_frozen BK170.out 4; have hfz12_5 := blk_frozen BK170.out 5) | ((with_reducible refine gate_callee (f := 7) rfl ?_); refine goesL_ (some 13) rfl rfl Try.func7 (by kernel_rfl) rfl #[.agg #[.bool a0_0, .bool a0_1, .int .i64 a0_2, .int .i64 a0_3, .int .i64 a0_4, .int .i64 a0_5]] rfl (by (try simp only [List.map_toArray, List.map_cons, List.map_nil]); first | done | rfl | (simp only [List.length_drop, List.length_take]; rfl)) ?_; (with_reducible refine (squelchref08_Right.calls k a0_0 a0_1 a0_2 a0_3 a0_4 a0_5 t171 _ A4.out).mono ?_); rintro e w13 ⟨rfl, hb⟩; refine ⟨_, rfl, ?_⟩; have n0_ := Aside0.mk (blk_below (g := gb168) (o := .cells #[.bool a0_0, .bool a0_1, .int .i64 a0_2, .int .i64 a0_3, .int .i64 a0_4, .int .i64 a0_5] 23 (0, 0)) (by (with_reducible repeat (first | refine blk_drewN ?_ _ | refine blk_drew ?_ | refine blk_alloc ?_ _)); refine blk_far ?_ NB168_170.out _; (with_reducible repeat (first | refine blk_drewN ?_ _ | refine blk_drew ?_ | refine blk_alloc ?_ _)); refine blk_far ?_ NB168_170.out _; (with_reducible repeat (first | refine blk_drewN ?_ _ | refine blk_drew ?_ | refine blk_alloc ?_ _)); refine blk_far ?_ NB168_170.out _; (with_reducible repeat (first | refine blk_drewN ?_ _ | refine blk_drew ?_ | refine blk_alloc ?_ _)); refine blk_far ?_ NB168_170.out _; (with_reducible repeat (first | refine blk_drewN ?_ _ | refine blk_drew ?_ | refine blk_alloc ?_ _)); refine blk_far ?_ NB168_170.out _; (with_reducible repeat (first | refine blk_drewN ?_ _ | refine blk_drew ?_ | refine blk_alloc ?_ _)); refine blk_far ?_ NB168_170.out _; (with_reducible repeat (first | refine blk_drewN ?_ _ | refine blk_drew ?_ | refine blk_alloc ?_ _)); exact BK168.out) hb); have n1_ := Aside0.mk (blk_below (g := gb170) (o := .cells #[.bool a0_0, .bool a0_1, .int .i64 a0_2, .int .i64 a0_3, .int .i64 a0_4, .int .i64 a0_5] 29 (0, 0)) (by (with_reducible repeat (first | refine blk_drewN ?_ _ | refine blk_drew ?_ | refine blk_alloc ?_ _)); refine blk_put (cs := #[.bool a0_0, .bool a0_1, .int .i64 a0_2, .int .i64 a0_3, .int .i64 a0_4, .int .i64 0]) ?_ 5 _ rfl; (with_reducible repeat (first | refine blk_drewN ?_ _ | refine blk_drew ?_ | refine blk_alloc ?_ _)); refine blk_put (cs := #[.bool a0_0, .bool a0_1, .int .i64 a0_2, .int .i64 a0_3, .int .i64 0, .int .i64 0]) ?_ 4 _ rfl; (with_reducible repeat (first | refine blk_drewN ?_ _ | refine blk_drew ?_ | refine blk_alloc ?_ _)); refine blk_put (cs := #[.bool a0_0, .bool a0_1, .int .i64 a0_2, .int .i64 0, .int .i64 0, .int .i64 0]) ?_ 3 _ rfl; (with_reducible repeat (first | refine blk_drewN ?_ _ | refine blk_drew ?_ | refine blk_alloc ?_ _)); refine blk_put (cs := #[.bool a0_0, .bool a0_1, .int .i64 0, .int .i64 0, .int .i64 0, .int .i64 0]) ?_ 2 _ rfl; (with_reducible repeat (first | refine blk_drewN ?_ _ | refine blk_drew ?_ | refine blk_alloc ?_ _)); refine blk_put (cs := #[.bool a0_0, .bool false, .int .i64 0, .int .i64 0, .int .i64 0, .int .i64 0]) ?_ 1 _ rfl; (with_reducible repeat (first | refine blk_drewN ?_ _ | refine blk_drew ?_ | refine blk_alloc ?_ _)); refine blk_put (cs := #[.bool false, .bool false, .int .i64 0, .int .i64 0, .int .i64 0, .int .i64 0]) ?_ 0 _ rfl; (with_reducible repeat (first | refine blk_drewN ?_ _ | refine blk_drew ?_ | refine blk_alloc ?_ _)); exact BK170.out) hb); have n2_ := Aside0.mk (below_step (by repeat (first | (with_reducible first | exact HB.out | apply below_alloc | apply pw_below_drewN | apply below_drew1 | refine below_set ?_ GE168.out | refine below_set ?_ GE170.out) | exact HB.out)) hb); clear BK168; clear BK170; clear HB; have BK168 := n0_; have BK170 := n1_; have HB := n2_; clear n0_ n1_ n2_; (try clear hb); (try clear hb2); (try clear hk); (try clear hi); have hcz14_0 : w13.cell? ⟨gb168, 0, none⟩ = some (.bool a0_0) := (blk_cell BK168.out 0).trans rfl; have hcz14_1 : w13.cell? ⟨gb168, 1, none⟩ = some (.bool a0_1) := (blk_cell BK168.out 1).trans rfl; have hcz14_2 : w13.cell? ⟨gb168, 2, none⟩ = some (.int .i64 a0_2) := (blk_cell BK168.out 2).trans rfl; have hcz14_3 : w13.cell? ⟨gb168, 3, none⟩ = some (.int .i64 a0_3) := (blk_cell BK168.out 3).trans rfl; have hcz14_4 : w13.cell? ⟨gb168, 4, none⟩ = some (.int .i64 a0_4) := (blk_cell BK168.out 4).trans rfl; have hcz14_5 : w13.cell? ⟨gb168, 5, none⟩ = some (.int .i64 a0_5) := (blk_cell BK168.out 5).trans rfl; have hfz14_0 := blk_frozen BK168.out 0; have hfz14_1 := blk_frozen BK168.out 1; have hfz14_2 := blk_frozen BK168.out 2; have hfz14_3 := blk_frozen BK168.out 3; have hfz14_4 := blk_frozen BK168.out 4; have hfz14_5 := blk_frozen BK168.out 5) | ((with_reducible refine gate_callee (f := 10) rfl ?_); refine goesL_ (some 16) rfl rfl Try.func10 (by kernel_rfl) rfl #[.agg #[.bool a0_0, .bool a0_1, .int .i64 a0_2, .int .i64 a0_3, .int .i64 a0_4, .int .i64 a0_5]] rfl (by (try simp only [List.map_toArray, List.map_cons, List.map_nil]); first | done | rfl | (simp only [List.length_drop, List.length_take]; rfl)) ?_; (with_reducible refine (xid_Put.calls k a0_0 a0_1 a0_2 a0_3 a0_4 a0_5 t172 t173 _ A5.out).mono ?_); rintro e w15 ⟨rfl, hb⟩; refine ⟨_, rfl, ?_⟩; have n0_ := Aside0.mk (blk_below (g := gb168) (o := .cells #[.bool a0_0, .bool a0_1, .int .i64 a0_2, .int .i64 a0_3, .int .i64 a0_4, .int .i64 a0_5] 23 (0, 0)) (by (with_reducible repeat (first | refine blk_drewN ?_ _ | refine blk_drew ?_ | refine blk_alloc ?_ _)); exact BK168.out) hb); have n1_ := Aside0.mk (blk_below (g := gb170) (o := .cells #[.bool a0_0, .bool a0_1, .int .i64 a0_2, .int .i64 a0_3, .int .i64 a0_4, .int .i64 a0_5] 29 (0, 0)) (by (with_reducible repeat (first | refine blk_drewN ?_ _ | refine blk_drew ?_ | refine blk_alloc ?_ _)); exact BK170.out) hb); have n2_ := Aside0.mk (below_step (by repeat (first | (with_reducible first | exact HB.out | apply below_alloc | apply pw_below_drewN | apply below_drew1 | refine below_set ?_ GE168.out | refine below_set ?_ GE170.out) | exact HB.out)) hb); clear BK168; clear BK170; clear HB; have BK168 := n0_; have BK170 := n1_; have HB := n2_; clear n0_ n1_ n2_; (try clear hb); (try clear hb2); (try clear hk); (try clear hi)))
  (try simp only [Act.put, List.setIfInBounds_toArray, List.set_cons_zero, List.set_cons_succ])
  go_cut [35] (fun v35 wc => ∃ (kq : Nat) (x35_5 : Bool), v35 = .bool x35_5 ∧ Aside0 (squelchlaw08_XidPuts.j0 kq t171 t172 t173 x35_5 a0_0 a0_1 a0_2 a0_3 a0_4 a0_5 a0_0 a0_1 a0_2 a0_3 a0_4 a0_5 = some r) ∧ Aside0 (kq ≤ k) ∧ Aside0 (wc.heap[gb168]? = some (.cells #[.bool a0_0, .bool a0_1, .int .i64 a0_2, .int .i64 a0_3, .int .i64 a0_4, .int .i64 a0_5] 23 (0, 0))) ∧ Aside0 (wc.heap[gb170]? = some (.cells #[.bool a0_0, .bool a0_1, .int .i64 a0_2, .int .i64 a0_3, .int .i64 a0_4, .int .i64 a0_5] 29 (0, 0))) ∧ Aside0 (Below w.heap.size w wc))
  case first =>
   have H := HC6.out
   clear HC6
   replace H := Option.bind_eq_some_iff.mp H
   obtain ⟨t174, A160, H⟩ := H
   replace H : (if (t174 != t171) = true then (squelchlaw08_XidPuts.j0 k t171 t172 t173 true a0_0 a0_1 a0_2 a0_3 a0_4 a0_5 a0_0 a0_1 a0_2 a0_3 a0_4 a0_5) else ((xid_Most.f a0_0 a0_1).bind fun t175 => ((squelchref08_Most.f k a0_0 a0_1).bind fun t176 => (squelchlaw08_XidPuts.j0 k t171 t172 t173 (t175 != t176) a0_0 a0_1 a0_2 a0_3 a0_4 a0_5 a0_0 a0_1 a0_2 a0_3 a0_4 a0_5)))) = some r := H
   have A16 := Aside0.mk A160
   clear A160
   by_cases c17 : (t174 != t171) = true
   ·rw [if_pos c17] at H
    have c17b0 : (t174 != t171) = true := c17
    (try (have c17b1 : decide (t174 = t171) = false := by simpa using c17))
    (try (have c17b2 : (t174 == t171) = false := by simpa using c17))
    (try (have c17b3 : ¬ (t174 = t171) := by simpa using c17))
    clear c17
    (first | rw [c17b0] | (simp only [i64_w, i32_w]; rw [c17b0]) | skip)
    have H' := Aside0.mk H
    clear H
    try go_wp2
    have n0_ := Aside0.mk (blk_drew BK168.out)
    have n1_ := Aside0.mk (blk_drew BK170.out)
    have n2_ := Aside0.mk (below_drew1 HB.out)
    clear BK168
    clear BK170
    clear HB
    have BK168 := n0_
    have BK170 := n1_
    have HB := n2_
    clear n0_ n1_ n2_
    refine start_ (n := 17) (S := fun w' => w'.cell? ⟨gb168, 0, none⟩ = some (.bool a0_0) ∧ w'.cell? ⟨gb168, 1, none⟩ = some (.bool a0_1) ∧ w'.cell? ⟨gb168, 2, none⟩ = some (.int .i64 a0_2) ∧ w'.cell? ⟨gb168, 3, none⟩ = some (.int .i64 a0_3) ∧ w'.cell? ⟨gb168, 4, none⟩ = some (.int .i64 a0_4) ∧ w'.cell? ⟨gb168, 5, none⟩ = some (.int .i64 a0_5)) (ds := []) #[false, false, false, false, false, false, false, false, false, false, false, false, false, false, false, false, false] (by kernel_rfl) rfl rfl ⟨(blk_cell BK168.out 0).trans rfl, (blk_cell BK168.out 1).trans rfl, (blk_cell BK168.out 2).trans rfl, (blk_cell BK168.out 3).trans rfl, (blk_cell BK168.out 4).trans rfl, (blk_cell BK168.out 5).trans rfl⟩ (fun hHeld => ?_); refine with_tabW squelchlaw08_XidPuts.tab6 squelchlaw08_XidPuts.bits6 (fun HT_ HW_ => ?_)
    generalize w15.drew = w18 at BK168 BK170 HB hHeld ⊢
    refine pure_ (i := 2) (N := some 21) (v := ?_) (a' := ?_) #[false, false, true, false, false, false, false, false, false, false, false, false, false, false, false, false, false] rfl rfl (any_of HT_.out (by kernel_rfl)) (fun _ _ _ h => h) (Or.inl ⟨by rfl, ?_⟩) ?_ ?_
    rotate_left
    ·intro w'
     go_simp
     with_reducible rfl
    rotate_left
    ·simp only [Act.put, List.setIfInBounds_toArray, List.set_cons_zero, List.set_cons_succ, i64_w, i32_w]
     rfl
    refine take_ (i := 0) (N := some 19) (v := ?_) (a' := ?_) #[true, false, true, false, false, false, false, false, false, false, false, false, false, false, false, false, false] rfl rfl (take_ofW HT_.out HW_.out (by kernel_rfl)) (fun _ _ _ h => h) (Or.inl ⟨by rfl, ?_⟩) hHeld ?_ ?_
    rotate_left
    ·rintro w' ⟨s0, s1, s2, s3, s4, s5⟩
     go_simp
     with_reducible rfl
    rotate_left
    ·simp only [Act.put, List.setIfInBounds_toArray, List.set_cons_zero, List.set_cons_succ, i64_w, i32_w]
     rfl
    refine one_ (i := 1) (N := some 20) #[true, true, true, false, false, false, false, false, false, false, false, false, false, false, false, false, false] rfl rfl (one_of HT_.out (by kernel_rfl)) (by decide) (fun K hK => ?_)
    refine goes_ Try.func9 (by kernel_rfl) rfl #[.agg #[.bool a0_0, .bool a0_1, .int .i64 a0_2, .int .i64 a0_3, .int .i64 a0_4, .int .i64 a0_5]] (by rfl) rfl rfl (by (try simp only [List.map_toArray, List.map_cons, List.map_nil]); first | done | rfl | (simp only [List.length_drop, List.length_take]; rfl)) ?_
    with_reducible refine (xid_Right.calls a0_0 a0_1 a0_2 a0_3 a0_4 a0_5 t174 _ A16.out).mono ?_
    rintro e w19 ⟨rfl, hb⟩
    refine ⟨_, rfl, ?_⟩
    have n0_ := Aside0.mk (blk_below (g := gb168) (o := .cells #[.bool a0_0, .bool a0_1, .int .i64 a0_2, .int .i64 a0_3, .int .i64 a0_4, .int .i64 a0_5] 23 (0, 0)) (by (with_reducible repeat (first | refine blk_drewN ?_ _ | refine blk_drew ?_ | refine blk_alloc ?_ _)); exact BK168.out) hb)
    have n1_ := Aside0.mk (blk_below (g := gb170) (o := .cells #[.bool a0_0, .bool a0_1, .int .i64 a0_2, .int .i64 a0_3, .int .i64 a0_4, .int .i64 a0_5] 29 (0, 0)) (by (with_reducible repeat (first | refine blk_drewN ?_ _ | refine blk_drew ?_ | refine blk_alloc ?_ _)); exact BK170.out) hb)
    have n2_ := Aside0.mk (below_step (by repeat (first | (with_reducible first | exact HB.out | apply below_alloc | apply pw_below_drewN | apply below_drew1 | refine below_set ?_ GE168.out | refine below_set ?_ GE170.out) | exact HB.out)) hb)
    clear BK168
    clear BK170
    clear HB
    have BK168 := n0_
    have BK170 := n1_
    have HB := n2_
    clear n0_ n1_ n2_
    (try clear hb)
    (try clear hb2)
    (try clear hk)
    (try clear hi)
    refine hK.out _ _ ⟨(blk_cell BK168.out 0).trans rfl, (blk_cell BK168.out 1).trans rfl, (blk_cell BK168.out 2).trans rfl, (blk_cell BK168.out 3).trans rfl, (blk_cell BK168.out 4).trans rfl, (blk_cell BK168.out 5).trans rfl⟩ (fun hHeld => ?_)
    clear hK K
    refine norm_ (a' := ?_) ?_ ?_
    rotate_left
    ·show Act.put _ (some 20) _ = _
     simp only [Act.put, List.setIfInBounds_toArray, List.set_cons_zero, List.set_cons_succ, i64_w, i32_w]
     rfl
    refine pure_ (i := 3) (N := some 22) (v := ?_) (a' := ?_) #[true, true, true, true, false, false, false, false, false, false, false, false, false, false, false, false, false] rfl rfl (any_of HT_.out (by kernel_rfl)) (fun _ _ _ h => h) (Or.inl ⟨by rfl, ?_⟩) ?_ ?_
    rotate_left
    ·intro w'
     go_simp
     with_reducible rfl
    rotate_left
    ·simp only [Act.put, List.setIfInBounds_toArray, List.set_cons_zero, List.set_cons_succ, i64_w, i32_w]
     rfl
    refine pure_ (i := 4) (N := some 23) (v := ?_) (a' := ?_) #[true, true, true, true, true, false, false, false, false, false, false, false, false, false, false, false, false] rfl rfl (any_of HT_.out (by kernel_rfl)) (fun _ _ _ h => h) (Or.inl ⟨by rfl, ?_⟩) ?_ ?_
    rotate_left
    ·intro w'
     go_simp
     with_reducible rfl
    rotate_left
    ·simp only [Act.put, List.setIfInBounds_toArray, List.set_cons_zero, List.set_cons_succ, i64_w, i32_w]
     rfl
    refine pure_ (i := 5) (N := some 24) (v := undef) (a' := ?_) #[true, true, true, true, true, true, false, false, false, false, false, false, false, false, false, false, false] rfl rfl (any_of HT_.out (by kernel_rfl)) (fun _ _ _ h => h) (Or.inr ⟨by rfl, rfl⟩) ?_ ?_
    rotate_left
    ·simp only [Act.put, List.setIfInBounds_toArray, List.set_cons_zero, List.set_cons_succ, i64_w, i32_w]
     rfl
    refine pure_ (i := 6) (N := some 25) (v := undef) (a' := ?_) #[true, true, true, true, true, true, true, false, false, false, false, false, false, false, false, false, false] rfl rfl (any_of HT_.out (by kernel_rfl)) (fun _ _ _ h => h) (Or.inr ⟨by rfl, rfl⟩) ?_ ?_
    rotate_left
    ·simp only [Act.put, List.setIfInBounds_toArray, List.set_cons_zero, List.set_cons_succ, i64_w, i32_w]
     rfl
    refine pure_ (i := 7) (N := some 26) (v := undef) (a' := ?_) #[true, true, true, true, true, true, true, true, false, false, false, false, false, false, false, false, false] rfl rfl (any_of HT_.out (by kernel_rfl)) (fun _ _ _ h => h) (Or.inr ⟨by rfl, rfl⟩) ?_ ?_
    rotate_left
    ·simp only [Act.put, List.setIfInBounds_toArray, List.set_cons_zero, List.set_cons_succ, i64_w, i32_w]
     rfl
    refine pure_ (i := 8) (N := some 27) (v := undef) (a' := ?_) #[true, true, true, true, true, true, true, true, true, false, false, false, false, false, false, false, false] rfl rfl (any_of HT_.out (by kernel_rfl)) (fun _ _ _ h => h) (Or.inr ⟨by rfl, rfl⟩) ?_ ?_
    rotate_left
    ·simp only [Act.put, List.setIfInBounds_toArray, List.set_cons_zero, List.set_cons_succ, i64_w, i32_w]
     rfl
    refine pure_ (i := 9) (N := some 28) (v := undef) (a' := ?_) #[true, true, true, true, true, true, true, true, true, true, false, false, false, false, false, false, false] rfl rfl (any_of HT_.out (by kernel_rfl)) (fun _ _ _ h => h) (Or.inr ⟨by rfl, rfl⟩) ?_ ?_
    rotate_left
    ·simp only [Act.put, List.setIfInBounds_toArray, List.set_cons_zero, List.set_cons_succ, i64_w, i32_w]
     rfl
    refine pure_ (i := 10) (N := some 29) (v := undef) (a' := ?_) #[true, true, true, true, true, true, true, true, true, true, true, false, false, false, false, false, false] rfl rfl (any_of HT_.out (by kernel_rfl)) (fun _ _ _ h => h) (Or.inr ⟨by rfl, rfl⟩) ?_ ?_
    rotate_left
    ·simp only [Act.put, List.setIfInBounds_toArray, List.set_cons_zero, List.set_cons_succ, i64_w, i32_w]
     rfl
    refine pure_ (i := 11) (N := some 30) (v := undef) (a' := ?_) #[true, true, true, true, true, true, true, true, true, true, true, true, false, false, false, false, false] rfl rfl (any_of HT_.out (by kernel_rfl)) (fun _ _ _ h => h) (Or.inr ⟨by rfl, rfl⟩) ?_ ?_
    rotate_left
    ·simp only [Act.put, List.setIfInBounds_toArray, List.set_cons_zero, List.set_cons_succ, i64_w, i32_w]
     rfl
    refine pure_ (i := 12) (N := some 31) (v := undef) (a' := ?_) #[true, true, true, true, true, true, true, true, true, true, true, true, true, false, false, false, false] rfl rfl (any_of HT_.out (by kernel_rfl)) (fun _ _ _ h => h) (Or.inr ⟨by rfl, rfl⟩) ?_ ?_
    rotate_left
    ·simp only [Act.put, List.setIfInBounds_toArray, List.set_cons_zero, List.set_cons_succ, i64_w, i32_w]
     rfl
    refine pure_ (i := 13) (N := some 32) (v := undef) (a' := ?_) #[true, true, true, true, true, true, true, true, true, true, true, true, true, true, false, false, false] rfl rfl (any_of HT_.out (by kernel_rfl)) (fun _ _ _ h => h) (Or.inr ⟨by rfl, rfl⟩) ?_ ?_
    rotate_left
    ·simp only [Act.put, List.setIfInBounds_toArray, List.set_cons_zero, List.set_cons_succ, i64_w, i32_w]
     rfl
    refine pure_ (i := 14) (N := some 33) (v := undef) (a' := ?_) #[true, true, true, true, true, true, true, true, true, true, true, true, true, true, true, false, false] rfl rfl (any_of HT_.out (by kernel_rfl)) (fun _ _ _ h => h) (Or.inr ⟨by rfl, rfl⟩) ?_ ?_
    rotate_left
    ·simp only [Act.put, List.setIfInBounds_toArray, List.set_cons_zero, List.set_cons_succ, i64_w, i32_w]
     rfl
    refine pure_ (i := 15) (N := some 34) (v := undef) (a' := ?_) #[true, true, true, true, true, true, true, true, true, true, true, true, true, true, true, true, false] rfl rfl (any_of HT_.out (by kernel_rfl)) (fun _ _ _ h => h) (Or.inr ⟨by rfl, rfl⟩) ?_ ?_
    rotate_left
    ·simp only [Act.put, List.setIfInBounds_toArray, List.set_cons_zero, List.set_cons_succ, i64_w, i32_w]
     rfl
    refine pure_ (i := 16) (N := some 35) (v := ?_) (a' := ?_) #[true, true, true, true, true, true, true, true, true, true, true, true, true, true, true, true, true] rfl rfl (any_of HT_.out (by kernel_rfl)) (fun _ _ _ h => h) (Or.inl ⟨by rfl, ?_⟩) ?_ ?_
    rotate_left
    ·intro w'
     go_simp
     with_reducible rfl
    rotate_left
    ·simp only [Act.put, List.setIfInBounds_toArray, List.set_cons_zero, List.set_cons_succ, i64_w, i32_w]
     rfl
    refine done_ (done_of HT_.out (by kernel_rfl)) ?_
    try go_wp2
    go_meet
    case rel => exact ⟨_, (true), (by first | rfl | (simp; done) | (simp [*]; done) | (simp; exact (fun l : List UInt8 => (by cases l <;> rfl : l.isEmpty = !(l != []))) _)), H', ⟨by first | omega | exact Nat.le_refl _⟩, ⟨by (with_reducible repeat (first | refine blk_drewN ?_ _ | refine blk_drew ?_ | refine blk_alloc ?_ _)); exact BK168.out⟩, ⟨by (with_reducible repeat (first | refine blk_drewN ?_ _ | refine blk_drew ?_ | refine blk_alloc ?_ _)); exact BK170.out⟩, ⟨by repeat (first | (with_reducible first | exact HB.out | apply below_alloc | apply pw_below_drewN | apply below_drew1 | refine below_set ?_ GE168.out | refine below_set ?_ GE170.out) | exact HB.out)⟩⟩
   ·rw [if_neg c17] at H
    have c17b0 : (t174 != t171) = false := by simpa using c17
    (try (have c17b1 : decide (t174 = t171) = true := by simpa using c17))
    (try (have c17b2 : (t174 == t171) = true := by simpa using c17))
    clear c17
    (first | rw [c17b0] | (simp only [i64_w, i32_w]; rw [c17b0]) | skip)
    replace H := Option.bind_eq_some_iff.mp H
    obtain ⟨t175, A200, H⟩ := H
    replace H : ((squelchref08_Most.f k a0_0 a0_1).bind fun t176 => (squelchlaw08_XidPuts.j0 k t171 t172 t173 (t175 != t176) a0_0 a0_1 a0_2 a0_3 a0_4 a0_5 a0_0 a0_1 a0_2 a0_3 a0_4 a0_5)) = some r := H
    have A20 := Aside0.mk A200
    clear A200
    replace H := Option.bind_eq_some_iff.mp H
    obtain ⟨t176, A210, H⟩ := H
    replace H : (squelchlaw08_XidPuts.j0 k t171 t172 t173 (t175 != t176) a0_0 a0_1 a0_2 a0_3 a0_4 a0_5 a0_0 a0_1 a0_2 a0_3 a0_4 a0_5) = some r := H
    have A21 := Aside0.mk A210
    clear A210
    have H' := Aside0.mk H
    clear H
    try go_wp2
    have n0_ := Aside0.mk (blk_drew BK168.out)
    have n1_ := Aside0.mk (blk_drew BK170.out)
    have n2_ := Aside0.mk (below_drew1 HB.out)
    clear BK168
    clear BK170
    clear HB
    have BK168 := n0_
    have BK170 := n1_
    have HB := n2_
    clear n0_ n1_ n2_
    refine start_ (n := 17) (S := fun w' => w'.cell? ⟨gb168, 0, none⟩ = some (.bool a0_0) ∧ w'.cell? ⟨gb168, 1, none⟩ = some (.bool a0_1) ∧ w'.cell? ⟨gb168, 2, none⟩ = some (.int .i64 a0_2) ∧ w'.cell? ⟨gb168, 3, none⟩ = some (.int .i64 a0_3) ∧ w'.cell? ⟨gb168, 4, none⟩ = some (.int .i64 a0_4) ∧ w'.cell? ⟨gb168, 5, none⟩ = some (.int .i64 a0_5)) (ds := []) #[false, false, false, false, false, false, false, false, false, false, false, false, false, false, false, false, false] (by kernel_rfl) rfl rfl ⟨(blk_cell BK168.out 0).trans rfl, (blk_cell BK168.out 1).trans rfl, (blk_cell BK168.out 2).trans rfl, (blk_cell BK168.out 3).trans rfl, (blk_cell BK168.out 4).trans rfl, (blk_cell BK168.out 5).trans rfl⟩ (fun hHeld => ?_); refine with_tabW squelchlaw08_XidPuts.tab6 squelchlaw08_XidPuts.bits6 (fun HT_ HW_ => ?_)
    generalize w15.drew = w22 at BK168 BK170 HB hHeld ⊢
    refine pure_ (i := 2) (N := some 21) (v := ?_) (a' := ?_) #[false, false, true, false, false, false, false, false, false, false, false, false, false, false, false, false, false] rfl rfl (any_of HT_.out (by kernel_rfl)) (fun _ _ _ h => h) (Or.inl ⟨by rfl, ?_⟩) ?_ ?_
    rotate_left
    ·intro w'
     go_simp
     with_reducible rfl
    rotate_left
    ·simp only [Act.put, List.setIfInBounds_toArray, List.set_cons_zero, List.set_cons_succ, i64_w, i32_w]
     rfl
    refine take_ (i := 0) (N := some 19) (v := ?_) (a' := ?_) #[true, false, true, false, false, false, false, false, false, false, false, false, false, false, false, false, false] rfl rfl (take_ofW HT_.out HW_.out (by kernel_rfl)) (fun _ _ _ h => h) (Or.inl ⟨by rfl, ?_⟩) hHeld ?_ ?_
    rotate_left
    ·rintro w' ⟨s0, s1, s2, s3, s4, s5⟩
     go_simp
     with_reducible rfl
    rotate_left
    ·simp only [Act.put, List.setIfInBounds_toArray, List.set_cons_zero, List.set_cons_succ, i64_w, i32_w]
     rfl
    refine one_ (i := 1) (N := some 20) #[true, true, true, false, false, false, false, false, false, false, false, false, false, false, false, false, false] rfl rfl (one_of HT_.out (by kernel_rfl)) (by decide) (fun K hK => ?_)
    refine goes_ Try.func9 (by kernel_rfl) rfl #[.agg #[.bool a0_0, .bool a0_1, .int .i64 a0_2, .int .i64 a0_3, .int .i64 a0_4, .int .i64 a0_5]] (by rfl) rfl rfl (by (try simp only [List.map_toArray, List.map_cons, List.map_nil]); first | done | rfl | (simp only [List.length_drop, List.length_take]; rfl)) ?_
    with_reducible refine (xid_Right.calls a0_0 a0_1 a0_2 a0_3 a0_4 a0_5 t174 _ A16.out).mono ?_
    rintro e w23 ⟨rfl, hb⟩
    refine ⟨_, rfl, ?_⟩
    have n0_ := Aside0.mk (blk_below (g := gb168) (o := .cells #[.bool a0_0, .bool a0_1, .int .i64 a0_2, .int .i64 a0_3, .int .i64 a0_4, .int .i64 a0_5] 23 (0, 0)) (by (with_reducible repeat (first | refine blk_drewN ?_ _ | refine blk_drew ?_ | refine blk_alloc ?_ _)); exact BK168.out) hb)
    have n1_ := Aside0.mk (blk_below (g := gb170) (o := .cells #[.bool a0_0, .bool a0_1, .int .i64 a0_2, .int .i64 a0_3, .int .i64 a0_4, .int .i64 a0_5] 29 (0, 0)) (by (with_reducible repeat (first | refine blk_drewN ?_ _ | refine blk_drew ?_ | refine blk_alloc ?_ _)); exact BK170.out) hb)
    have n2_ := Aside0.mk (below_step (by repeat (first | (with_reducible first | exact HB.out | apply below_alloc | apply pw_below_drewN | apply below_drew1 | refine below_set ?_ GE168.out | refine below_set ?_ GE170.out) | exact HB.out)) hb)
    clear BK168
    clear BK170
    clear HB
    have BK168 := n0_
    have BK170 := n1_
    have HB := n2_
    clear n0_ n1_ n2_
    (try clear hb)
    (try clear hb2)
    (try clear hk)
    (try clear hi)
    refine hK.out _ _ ⟨(blk_cell BK168.out 0).trans rfl, (blk_cell BK168.out 1).trans rfl, (blk_cell BK168.out 2).trans rfl, (blk_cell BK168.out 3).trans rfl, (blk_cell BK168.out 4).trans rfl, (blk_cell BK168.out 5).trans rfl⟩ (fun hHeld => ?_)
    clear hK K
    refine norm_ (a' := ?_) ?_ ?_
    rotate_left
    ·show Act.put _ (some 20) _ = _
     simp only [Act.put, List.setIfInBounds_toArray, List.set_cons_zero, List.set_cons_succ, i64_w, i32_w]
     rfl
    refine pure_ (i := 3) (N := some 22) (v := ?_) (a' := ?_) #[true, true, true, true, false, false, false, false, false, false, false, false, false, false, false, false, false] rfl rfl (any_of HT_.out (by kernel_rfl)) (fun _ _ _ h => h) (Or.inl ⟨by rfl, ?_⟩) ?_ ?_
    rotate_left
    ·intro w'
     go_simp
     with_reducible rfl
    rotate_left
    ·simp only [Act.put, List.setIfInBounds_toArray, List.set_cons_zero, List.set_cons_succ, i64_w, i32_w]
     rfl
    refine pure_ (i := 4) (N := some 23) (v := ?_) (a' := ?_) #[true, true, true, true, true, false, false, false, false, false, false, false, false, false, false, false, false] rfl rfl (any_of HT_.out (by kernel_rfl)) (fun _ _ _ h => h) (Or.inl ⟨by rfl, ?_⟩) ?_ ?_
    rotate_left
    ·intro w'
     go_simp
     with_reducible rfl
    rotate_left
    ·simp only [Act.put, List.setIfInBounds_toArray, List.set_cons_zero, List.set_cons_succ, i64_w, i32_w]
     rfl
    refine pure_ (i := 5) (N := some 24) (v := ?_) (a' := ?_) #[true, true, true, true, true, true, false, false, false, false, false, false, false, false, false, false, false] rfl rfl (any_of HT_.out (by kernel_rfl)) (fun _ _ _ h => h) (Or.inl ⟨by rfl, ?_⟩) ?_ ?_
    rotate_left
    ·intro w'
     go_simp
     with_reducible rfl
    rotate_left
    ·simp only [Act.put, List.setIfInBounds_toArray, List.set_cons_zero, List.set_cons_succ, i64_w, i32_w]
     rfl
    refine pure_ (i := 7) (N := some 26) (v := ?_) (a' := ?_) #[true, true, true, true, true, true, false, true, false, false, false, false, false, false, false, false, false] rfl rfl (any_of HT_.out (by kernel_rfl)) (fun _ _ _ h => h) (Or.inl ⟨by rfl, ?_⟩) ?_ ?_
    rotate_left
    ·intro w'
     go_simp
     with_reducible rfl
    rotate_left
    ·simp only [Act.put, List.setIfInBounds_toArray, List.set_cons_zero, List.set_cons_succ, i64_w, i32_w]
     rfl
    refine pure_ (i := 10) (N := some 29) (v := ?_) (a' := ?_) #[true, true, true, true, true, true, false, true, false, false, true, false, false, false, false, false, false] rfl rfl (any_of HT_.out (by kernel_rfl)) (fun _ _ _ h => h) (Or.inl ⟨by rfl, ?_⟩) ?_ ?_
    rotate_left
    ·intro w'
     go_simp
     with_reducible rfl
    rotate_left
    ·simp only [Act.put, List.setIfInBounds_toArray, List.set_cons_zero, List.set_cons_succ, i64_w, i32_w]
     rfl
    refine pure_ (i := 12) (N := some 31) (v := ?_) (a' := ?_) #[true, true, true, true, true, true, false, true, false, false, true, false, true, false, false, false, false] rfl rfl (any_of HT_.out (by kernel_rfl)) (fun _ _ _ h => h) (Or.inl ⟨by rfl, ?_⟩) ?_ ?_
    rotate_left
    ·intro w'
     go_simp
     with_reducible rfl
    rotate_left
    ·simp only [Act.put, List.setIfInBounds_toArray, List.set_cons_zero, List.set_cons_succ, i64_w, i32_w]
     rfl
    refine take_ (i := 6) (N := some 25) (v := ?_) (a' := ?_) #[true, true, true, true, true, true, true, true, false, false, true, false, true, false, false, false, false] rfl rfl (take_ofW HT_.out HW_.out (by kernel_rfl)) (fun _ _ _ h => h) (Or.inl ⟨by rfl, ?_⟩) hHeld ?_ ?_
    rotate_left
    ·rintro w' ⟨s0, s1, s2, s3, s4, s5⟩
     go_simp
     with_reducible rfl
    rotate_left
    ·simp only [Act.put, List.setIfInBounds_toArray, List.set_cons_zero, List.set_cons_succ, i64_w, i32_w]
     rfl
    refine take_ (i := 8) (N := some 27) (v := ?_) (a' := ?_) #[true, true, true, true, true, true, true, true, true, false, true, false, true, false, false, false, false] rfl rfl (take_ofW HT_.out HW_.out (by kernel_rfl)) (fun _ _ _ h => h) (Or.inl ⟨by rfl, ?_⟩) hHeld ?_ ?_
    rotate_left
    ·rintro w' ⟨s0, s1, s2, s3, s4, s5⟩
     go_simp
     with_reducible rfl
    rotate_left
    ·simp only [Act.put, List.setIfInBounds_toArray, List.set_cons_zero, List.set_cons_succ, i64_w, i32_w]
     rfl
    refine take_ (i := 11) (N := some 30) (v := ?_) (a' := ?_) #[true, true, true, true, true, true, true, true, true, false, true, true, true, false, false, false, false] rfl rfl (take_ofW HT_.out HW_.out (by kernel_rfl)) (fun _ _ _ h => h) (Or.inl ⟨by rfl, ?_⟩) hHeld ?_ ?_
    rotate_left
    ·rintro w' ⟨s0, s1, s2, s3, s4, s5⟩
     go_simp
     with_reducible rfl
    rotate_left
    ·simp only [Act.put, List.setIfInBounds_toArray, List.set_cons_zero, List.set_cons_succ, i64_w, i32_w]
     rfl
    refine take_ (i := 13) (N := some 32) (v := ?_) (a' := ?_) #[true, true, true, true, true, true, true, true, true, false, true, true, true, true, false, false, false] rfl rfl (take_ofW HT_.out HW_.out (by kernel_rfl)) (fun _ _ _ h => h) (Or.inl ⟨by rfl, ?_⟩) hHeld ?_ ?_
    rotate_left
    ·rintro w' ⟨s0, s1, s2, s3, s4, s5⟩
     go_simp
     with_reducible rfl
    rotate_left
    ·simp only [Act.put, List.setIfInBounds_toArray, List.set_cons_zero, List.set_cons_succ, i64_w, i32_w]
     rfl
    refine one_ (i := 9) (N := some 28) #[true, true, true, true, true, true, true, true, true, true, true, true, true, true, false, false, false] rfl rfl (one_of HT_.out (by kernel_rfl)) (by decide) (fun K hK => ?_)
    refine goes_ Try.func11 (by kernel_rfl) rfl #[.bool a0_0, .bool a0_1] (by rfl) rfl rfl (by (try simp only [List.map_toArray, List.map_cons, List.map_nil]); first | done | rfl | (simp only [List.length_drop, List.length_take]; rfl)) ?_
    with_reducible refine (xid_Most.calls a0_0 a0_1 t175 _ A20.out).mono ?_
    rintro e w' ⟨rfl, ⟨nd, rfl⟩⟩
    refine ⟨_, rfl, ?_⟩
    refine hK.out _ _ ⟨(blk_cell BK168.out 0).trans rfl, (blk_cell BK168.out 1).trans rfl, (blk_cell BK168.out 2).trans rfl, (blk_cell BK168.out 3).trans rfl, (blk_cell BK168.out 4).trans rfl, (blk_cell BK168.out 5).trans rfl⟩ (fun hHeld => ?_)
    clear hK K
    refine norm_ (a' := ?_) ?_ ?_
    rotate_left
    ·show Act.put _ (some 28) _ = _
     simp only [Act.put, List.setIfInBounds_toArray, List.set_cons_zero, List.set_cons_succ, i64_w, i32_w]
     rfl
    refine one_ (i := 14) (N := some 33) #[true, true, true, true, true, true, true, true, true, true, true, true, true, true, true, false, false] rfl rfl (one_of HT_.out (by kernel_rfl)) (by decide) (fun K hK => ?_)
    refine goes_ Try.func12 (by kernel_rfl) rfl #[.bool a0_0, .bool a0_1] (by rfl) rfl rfl (by (try simp only [List.map_toArray, List.map_cons, List.map_nil]); first | done | rfl | (simp only [List.length_drop, List.length_take]; rfl)) ?_
    with_reducible refine (squelchref08_Most.calls k a0_0 a0_1 t176 _ A21.out).mono ?_
    rintro e w' ⟨rfl, ⟨nd, rfl⟩⟩
    refine ⟨_, rfl, ?_⟩
    refine hK.out _ _ ⟨(blk_cell BK168.out 0).trans rfl, (blk_cell BK168.out 1).trans rfl, (blk_cell BK168.out 2).trans rfl, (blk_cell BK168.out 3).trans rfl, (blk_cell BK168.out 4).trans rfl, (blk_cell BK168.out 5).trans rfl⟩ (fun hHeld => ?_)
    clear hK K
    refine norm_ (a' := ?_) ?_ ?_
    rotate_left
    ·show Act.put _ (some 33) _ = _
     simp only [Act.put, List.setIfInBounds_toArray, List.set_cons_zero, List.set_cons_succ, i64_w, i32_w]
     rfl
    refine pure_ (i := 15) (N := some 34) (v := ?_) (a' := ?_) #[true, true, true, true, true, true, true, true, true, true, true, true, true, true, true, true, false] rfl rfl (any_of HT_.out (by kernel_rfl)) (fun _ _ _ h => h) (Or.inl ⟨by rfl, ?_⟩) ?_ ?_
    rotate_left
    ·intro w'
     go_simp
     with_reducible rfl
    rotate_left
    ·simp only [Act.put, List.setIfInBounds_toArray, List.set_cons_zero, List.set_cons_succ, i64_w, i32_w]
     rfl
    refine pure_ (i := 16) (N := some 35) (v := ?_) (a' := ?_) #[true, true, true, true, true, true, true, true, true, true, true, true, true, true, true, true, true] rfl rfl (any_of HT_.out (by kernel_rfl)) (fun _ _ _ h => h) (Or.inl ⟨by rfl, ?_⟩) ?_ ?_
    rotate_left
    ·intro w'
     go_simp
     with_reducible rfl
    rotate_left
    ·simp only [Act.put, List.setIfInBounds_toArray, List.set_cons_zero, List.set_cons_succ, i64_w, i32_w]
     rfl
    refine done_ (done_of HT_.out (by kernel_rfl)) ?_
    try go_wp2
    go_meet
    case rel => exact ⟨_, ((t175 != t176)), (by first | rfl | (simp; done) | (simp [*]; done) | (simp; exact (fun l : List UInt8 => (by cases l <;> rfl : l.isEmpty = !(l != []))) _)), H', ⟨by first | omega | exact Nat.le_refl _⟩, ⟨by (with_reducible repeat (first | refine blk_drewN ?_ _ | refine blk_drew ?_ | refine blk_alloc ?_ _)); exact BK168.out⟩, ⟨by (with_reducible repeat (first | refine blk_drewN ?_ _ | refine blk_drew ?_ | refine blk_alloc ?_ _)); exact BK170.out⟩, ⟨by repeat (first | (with_reducible first | exact HB.out | apply below_alloc | apply pw_below_drewN | apply below_drew1 | refine below_set ?_ GE168.out | refine below_set ?_ GE170.out) | exact HB.out)⟩⟩
  case rest =>
   clear HC6
   try clear c1
   try clear p2
   try clear c3
   try clear c4
   try clear c5
   try clear c7
   try clear c9
   try clear c10
   try clear c11
   try clear c12
   try clear c17
   try clear c17b0
   try clear c17b1
   try clear c17b2
   try clear hcz12_0
   try clear hcz12_1
   try clear hcz12_2
   try clear hcz12_3
   try clear hcz12_4
   try clear hcz12_5
   try clear hcz14_0
   try clear hcz14_1
   try clear hcz14_2
   try clear hcz14_3
   try clear hcz14_4
   try clear hcz14_5
   try clear hcz9_0
   try clear hcz9_1
   try clear hcz9_2
   try clear hcz9_3
   try clear hcz9_4
   try clear hcz9_5
   try clear hfz12_0
   try clear hfz12_1
   try clear hfz12_2
   try clear hfz12_3
   try clear hfz12_4
   try clear hfz12_5
   try clear hfz14_0
   try clear hfz14_1
   try clear hfz14_2
   try clear hfz14_3
   try clear hfz14_4
   try clear hfz14_5
   try clear hfz9_0
   try clear hfz9_1
   try clear hfz9_2
   try clear hfz9_3
   try clear hfz9_4
   try clear hfz9_5
   obtain ⟨kq, x35_5, rfl, HA, HJ5, BK168, BK170, HB⟩ := hcut
   cases kq with
   | zero => exact absurd HA.out (by simp [squelchlaw08_XidPuts.j0])
   | succ kj5 =>
    have H := HA.out
    clear HA
    simp only [squelchlaw08_XidPuts.j0] at H
    by_cases c24 : x35_5 = true
    ·subst c24
     have H1 : (some false) = some r := by rw [if_pos rfl] at H; exact H
     clear H
     have H := H1
     clear H1
     exact absurd ((Option.some.inj H).trans HT_.out) (by decide)
    ·replace c24 := Bool.eq_false_iff.mpr c24
     subst c24
     have H1 : (if t171 = true then ((xid_Get.f t172).bind fun bt177 => (if t173 = 0 then ((squelchref08_Put.f kj5 a0_0 a0_1 a0_2 a0_3 a0_4 a0_5).bind fun t185 => (if t172.toList = t185.toList then (if bt177.2.2.2.2.2.2 = 0 then (some (bt177.1 == a0_0 && (bt177.2.1 == a0_1 && (bt177.2.2.1 == a0_2 && (bt177.2.2.2.1 == a0_3 && (bt177.2.2.2.2.1 == a0_4 && (bt177.2.2.2.2.2.1 == a0_5))))))) else (some false)) else (some false))) else (some false))) else (if t172.toList = ([] : List UInt8) then (some (t173 == 1)) else (some false))) = some r := by rw [if_neg (show ¬ (false = true) by decide)] at H; exact H
     clear H
     have H := H1
     clear H1
     by_cases c25 : t171 = true
     ·subst c25
      (try simp only [Bool.true_beq, Bool.false_beq, beq_true, beq_false] at c17b0)
      have H1 : ((xid_Get.f t172).bind fun bt177 => (if t173 = 0 then ((squelchref08_Put.f kj5 a0_0 a0_1 a0_2 a0_3 a0_4 a0_5).bind fun t185 => (if t172.toList = t185.toList then (if bt177.2.2.2.2.2.2 = 0 then (some (bt177.1 == a0_0 && (bt177.2.1 == a0_1 && (bt177.2.2.1 == a0_2 && (bt177.2.2.2.1 == a0_3 && (bt177.2.2.2.2.1 == a0_4 && (bt177.2.2.2.2.2.1 == a0_5))))))) else (some false)) else (some false))) else (some false))) = some r := by rw [if_pos rfl] at H; exact H
      clear H
      have H := H1
      clear H1
      replace H := Option.bind_eq_some_iff.mp H
      obtain ⟨⟨t177, t178, t179, t180, t181, t182, t183⟩, A260, H⟩ := H
      replace H : (if t173 = 0 then ((squelchref08_Put.f kj5 a0_0 a0_1 a0_2 a0_3 a0_4 a0_5).bind fun t185 => (if t172.toList = t185.toList then (if t183 = 0 then (some (t177 == a0_0 && (t178 == a0_1 && (t179 == a0_2 && (t180 == a0_3 && (t181 == a0_4 && (t182 == a0_5))))))) else (some false)) else (some false))) else (some false)) = some r := H
      have A26 := Aside0.mk A260
      clear A260
      by_cases c27 : t173 = 0
      ·rw [if_pos c27] at H
       have c27b0 : (t173 == 0) = true := beq_iff_eq.mpr c27
       have c27b1 : (t173 != 0) = false := bne_eq_false_iff_eq.mpr c27
       clear c27
       replace H := Option.bind_eq_some_iff.mp H
       obtain ⟨t185, A280, H⟩ := H
       replace H : (if t172.toList = t185.toList then (if t183 = 0 then (some (t177 == a0_0 && (t178 == a0_1 && (t179 == a0_2 && (t180 == a0_3 && (t181 == a0_4 && (t182 == a0_5))))))) else (some false)) else (some false)) = some r := H
       have A28 := Aside0.mk A280
       clear A280
       by_cases c29 : t172.toList = t185.toList
       ·rw [if_pos c29] at H
        have c29b0 : (t172.toList == t185.toList) = true := beq_iff_eq.mpr c29
        have c29b1 : (t172.toList != t185.toList) = false := bne_eq_false_iff_eq.mpr c29
        clear c29
        by_cases c30 : t183 = 0
        ·rw [if_pos c30] at H
         have c30b0 : (t183 == 0) = true := beq_iff_eq.mpr c30
         have c30b1 : (t183 != 0) = false := bne_eq_false_iff_eq.mpr c30
         clear c30
         obtain rfl := Option.some.inj H
         go_wp2_with (first | ((with_reducible refine gate_callee (f := 13) rfl ?_); refine goesL_ (some 46) rfl rfl Try.func13 (by kernel_rfl) rfl #[.string t172] rfl (by (try simp only [List.map_toArray, List.map_cons, List.map_nil]); first | done | rfl | (simp only [List.length_drop, List.length_take]; rfl)) ?_; (with_reducible refine (xid_Get.calls t172 t177 t178 t179 t180 t181 t182 t183 _ A26.out).mono ?_); rintro e w31 ⟨rfl, hb⟩; refine ⟨_, rfl, ?_⟩; have n0_ := Aside0.mk (blk_below (g := gb168) (o := .cells #[.bool a0_0, .bool a0_1, .int .i64 a0_2, .int .i64 a0_3, .int .i64 a0_4, .int .i64 a0_5] 23 (0, 0)) (by (with_reducible repeat (first | refine blk_drewN ?_ _ | refine blk_drew ?_ | refine blk_alloc ?_ _)); exact BK168.out) hb); have n1_ := Aside0.mk (blk_below (g := gb170) (o := .cells #[.bool a0_0, .bool a0_1, .int .i64 a0_2, .int .i64 a0_3, .int .i64 a0_4, .int .i64 a0_5] 29 (0, 0)) (by (with_reducible repeat (first | refine blk_drewN ?_ _ | refine blk_drew ?_ | refine blk_alloc ?_ _)); exact BK170.out) hb); have n2_ := Aside0.mk (below_step (by repeat (first | (with_reducible first | exact HB.out | apply below_alloc | apply pw_below_drewN | apply below_drew1 | refine below_set ?_ GE168.out | refine below_set ?_ GE170.out) | exact HB.out)) hb); clear BK168; clear BK170; clear HB; have BK168 := n0_; have BK170 := n1_; have HB := n2_; clear n0_ n1_ n2_; (try clear hb); (try clear hb2); (try clear hk); (try clear hi)) | ((with_reducible refine gate_dst (N := 7) rfl ?_); refine box_event ?hg (N := 7) ?hd (cs := #[.bool false, .bool false, .int .i64 0, .int .i64 0, .int .i64 0, .int .i64 0]) (t := 23) ?hr ?_; (case hd => rfl); (case hg => rfl); (case hr => first | (go_simp; done) | (go_simp; rfl)); intro gb184 hg w32 hbox hb; have n0_ := Aside0.mk (blk_below (g := gb168) (o := .cells #[.bool a0_0, .bool a0_1, .int .i64 a0_2, .int .i64 a0_3, .int .i64 a0_4, .int .i64 a0_5] 23 (0, 0)) (by (with_reducible repeat (first | refine blk_drewN ?_ _ | refine blk_drew ?_ | refine blk_alloc ?_ _)); exact BK168.out) hb); have n1_ := Aside0.mk (blk_below (g := gb170) (o := .cells #[.bool a0_0, .bool a0_1, .int .i64 a0_2, .int .i64 a0_3, .int .i64 a0_4, .int .i64 a0_5] 29 (0, 0)) (by (with_reducible repeat (first | refine blk_drewN ?_ _ | refine blk_drew ?_ | refine blk_alloc ?_ _)); exact BK170.out) hb); have n2_ := Aside0.mk (below_step (by repeat (first | (with_reducible first | exact HB.out | apply below_alloc | apply pw_below_drewN | apply below_drew1 | refine below_set ?_ GE168.out | refine below_set ?_ GE170.out) | exact HB.out)) hb); have n3_ := Aside0.mk (hbox); have n4_ := Aside0.mk ((by rw [hg]; exact (below_size (by repeat (first | (with_reducible first | exact HB.out | apply below_alloc | apply pw_below_drewN | apply below_drew1 | refine below_set ?_ GE168.out | refine below_set ?_ GE170.out) | exact HB.out))) : w.heap.size ≤ gb184)); have n5_ := Aside0.mk ((by rw [hg]; exact (below_size (by repeat (first | (with_reducible first | exact HB.out | apply below_alloc | apply pw_below_drewN | apply below_drew1 | refine below_set ?_ GE168.out | refine below_set ?_ GE170.out) | exact HB.out))) : w.heap.size ≤ gb184)); have n6_ := Aside0.mk ((by rw [hg]; exact Nat.ne_of_lt (blk_lt (g := gb168) (o := .cells #[.bool a0_0, .bool a0_1, .int .i64 a0_2, .int .i64 a0_3, .int .i64 a0_4, .int .i64 a0_5] 23 (0, 0)) (by (with_reducible repeat (first | refine blk_drewN ?_ _ | refine blk_drew ?_ | refine blk_alloc ?_ _)); exact BK168.out)) : gb168 ≠ gb184)); have n7_ := Aside0.mk ((by rw [hg]; exact Nat.ne_of_gt (blk_lt (g := gb168) (o := .cells #[.bool a0_0, .bool a0_1, .int .i64 a0_2, .int .i64 a0_3, .int .i64 a0_4, .int .i64 a0_5] 23 (0, 0)) (by (with_reducible repeat (first | refine blk_drewN ?_ _ | refine blk_drew ?_ | refine blk_alloc ?_ _)); exact BK168.out)) : gb184 ≠ gb168)); have n8_ := Aside0.mk ((by rw [hg]; exact Nat.ne_of_lt (blk_lt (g := gb170) (o := .cells #[.bool a0_0, .bool a0_1, .int .i64 a0_2, .int .i64 a0_3, .int .i64 a0_4, .int .i64 a0_5] 29 (0, 0)) (by (with_reducible repeat (first | refine blk_drewN ?_ _ | refine blk_drew ?_ | refine blk_alloc ?_ _)); exact BK170.out)) : gb170 ≠ gb184)); have n9_ := Aside0.mk ((by rw [hg]; exact Nat.ne_of_gt (blk_lt (g := gb170) (o := .cells #[.bool a0_0, .bool a0_1, .int .i64 a0_2, .int .i64 a0_3, .int .i64 a0_4, .int .i64 a0_5] 29 (0, 0)) (by (with_reducible repeat (first | refine blk_drewN ?_ _ | refine blk_drew ?_ | refine blk_alloc ?_ _)); exact BK170.out)) : gb184 ≠ gb170)); clear BK168; clear BK170; clear HB; have BK168 := n0_; have BK170 := n1_; have HB := n2_; have BK184 := n3_; have GW184 := n4_; have GE184 := n5_; have NB168_184 := n6_; have NB184_168 := n7_; have NB170_184 := n8_; have NB184_170 := n9_; clear n0_ n1_ n2_ n3_ n4_ n5_ n6_ n7_ n8_ n9_; clear hb hbox hg; have hnb33 := NB184_168.out; have hnc33 := NB168_184.out; have hnb34 := NB184_170.out; have hnc34 := NB170_184.out; have hcz35_0 : w32.cell? ⟨gb184, 0, none⟩ = some (.bool false) := (blk_cell BK184.out 0).trans rfl; have hcz35_1 : w32.cell? ⟨gb184, 1, none⟩ = some (.bool false) := (blk_cell BK184.out 1).trans rfl; have hcz35_2 : w32.cell? ⟨gb184, 2, none⟩ = some (.int .i64 0) := (blk_cell BK184.out 2).trans rfl; have hcz35_3 : w32.cell? ⟨gb184, 3, none⟩ = some (.int .i64 0) := (blk_cell BK184.out 3).trans rfl; have hcz35_4 : w32.cell? ⟨gb184, 4, none⟩ = some (.int .i64 0) := (blk_cell BK184.out 4).trans rfl; have hcz35_5 : w32.cell? ⟨gb184, 5, none⟩ = some (.int .i64 0) := (blk_cell BK184.out 5).trans rfl; have hfz35_0 := blk_frozen BK184.out 0; have hfz35_1 := blk_frozen BK184.out 1; have hfz35_2 := blk_frozen BK184.out 2; have hfz35_3 := blk_frozen BK184.out 3; have hfz35_4 := blk_frozen BK184.out 4; have hfz35_5 := blk_frozen BK184.out 5; have hnb36 := NB170_168.out; have hnc36 := NB168_170.out; have hcz37_0 : w32.cell? ⟨gb170, 0, none⟩ = some (.bool a0_0) := (blk_cell BK170.out 0).trans rfl; have hcz37_1 : w32.cell? ⟨gb170, 1, none⟩ = some (.bool a0_1) := (blk_cell BK170.out 1).trans rfl; have hcz37_2 : w32.cell? ⟨gb170, 2, none⟩ = some (.int .i64 a0_2) := (blk_cell BK170.out 2).trans rfl; have hcz37_3 : w32.cell? ⟨gb170, 3, none⟩ = some (.int .i64 a0_3) := (blk_cell BK170.out 3).trans rfl; have hcz37_4 : w32.cell? ⟨gb170, 4, none⟩ = some (.int .i64 a0_4) := (blk_cell BK170.out 4).trans rfl; have hcz37_5 : w32.cell? ⟨gb170, 5, none⟩ = some (.int .i64 a0_5) := (blk_cell BK170.out 5).trans rfl; have hfz37_0 := blk_frozen BK170.out 0; have hfz37_1 := blk_frozen BK170.out 1; have hfz37_2 := blk_frozen BK170.out 2; have hfz37_3 := blk_frozen BK170.out 3; have hfz37_4 := blk_frozen BK170.out 4; have hfz37_5 := blk_frozen BK170.out 5) | (go_at_call 14; (with_reducible refine (squelchref08_Put.calls kj5 a0_0 a0_1 a0_2 a0_3 a0_4 a0_5 t185 _ A28.out).mono ?_); rintro e w38 ⟨rfl, hb⟩; have n0_ := Aside0.mk (blk_below (g := gb168) (o := .cells #[.bool a0_0, .bool a0_1, .int .i64 a0_2, .int .i64 a0_3, .int .i64 a0_4, .int .i64 a0_5] 23 (0, 0)) (by (with_reducible repeat (first | refine blk_drewN ?_ _ | refine blk_drew ?_ | refine blk_alloc ?_ _)); refine blk_far ?_ NB168_184.out _; (with_reducible repeat (first | refine blk_drewN ?_ _ | refine blk_drew ?_ | refine blk_alloc ?_ _)); refine blk_far ?_ NB168_184.out _; (with_reducible repeat (first | refine blk_drewN ?_ _ | refine blk_drew ?_ | refine blk_alloc ?_ _)); refine blk_far ?_ NB168_184.out _; (with_reducible repeat (first | refine blk_drewN ?_ _ | refine blk_drew ?_ | refine blk_alloc ?_ _)); refine blk_far ?_ NB168_184.out _; (with_reducible repeat (first | refine blk_drewN ?_ _ | refine blk_drew ?_ | refine blk_alloc ?_ _)); refine blk_far ?_ NB168_184.out _; (with_reducible repeat (first | refine blk_drewN ?_ _ | refine blk_drew ?_ | refine blk_alloc ?_ _)); refine blk_far ?_ NB168_184.out _; (with_reducible repeat (first | refine blk_drewN ?_ _ | refine blk_drew ?_ | refine blk_alloc ?_ _)); exact BK168.out) hb); have n1_ := Aside0.mk (blk_below (g := gb170) (o := .cells #[.bool a0_0, .bool a0_1, .int .i64 a0_2, .int .i64 a0_3, .int .i64 a0_4, .int .i64 a0_5] 29 (0, 0)) (by (with_reducible repeat (first | refine blk_drewN ?_ _ | refine blk_drew ?_ | refine blk_alloc ?_ _)); refine blk_far ?_ NB170_184.out _; (with_reducible repeat (first | refine blk_drewN ?_ _ | refine blk_drew ?_ | refine blk_alloc ?_ _)); refine blk_far ?_ NB170_184.out _; (with_reducible repeat (first | refine blk_drewN ?_ _ | refine blk_drew ?_ | refine blk_alloc ?_ _)); refine blk_far ?_ NB170_184.out _; (with_reducible repeat (first | refine blk_drewN ?_ _ | refine blk_drew ?_ | refine blk_alloc ?_ _)); refine blk_far ?_ NB170_184.out _; (with_reducible repeat (first | refine blk_drewN ?_ _ | refine blk_drew ?_ | refine blk_alloc ?_ _)); refine blk_far ?_ NB170_184.out _; (with_reducible repeat (first | refine blk_drewN ?_ _ | refine blk_drew ?_ | refine blk_alloc ?_ _)); refine blk_far ?_ NB170_184.out _; (with_reducible repeat (first | refine blk_drewN ?_ _ | refine blk_drew ?_ | refine blk_alloc ?_ _)); exact BK170.out) hb); have n2_ := Aside0.mk (blk_below (g := gb184) (o := .cells #[.bool t177, .bool t178, .int .i64 t179, .int .i64 t180, .int .i64 t181, .int .i64 t182] 23 (0, 0)) (by (with_reducible repeat (first | refine blk_drewN ?_ _ | refine blk_drew ?_ | refine blk_alloc ?_ _)); refine blk_put (cs := #[.bool t177, .bool t178, .int .i64 t179, .int .i64 t180, .int .i64 t181, .int .i64 0]) ?_ 5 _ rfl; (with_reducible repeat (first | refine blk_drewN ?_ _ | refine blk_drew ?_ | refine blk_alloc ?_ _)); refine blk_put (cs := #[.bool t177, .bool t178, .int .i64 t179, .int .i64 t180, .int .i64 0, .int .i64 0]) ?_ 4 _ rfl; (with_reducible repeat (first | refine blk_drewN ?_ _ | refine blk_drew ?_ | refine blk_alloc ?_ _)); refine blk_put (cs := #[.bool t177, .bool t178, .int .i64 t179, .int .i64 0, .int .i64 0, .int .i64 0]) ?_ 3 _ rfl; (with_reducible repeat (first | refine blk_drewN ?_ _ | refine blk_drew ?_ | refine blk_alloc ?_ _)); refine blk_put (cs := #[.bool t177, .bool t178, .int .i64 0, .int .i64 0, .int .i64 0, .int .i64 0]) ?_ 2 _ rfl; (with_reducible repeat (first | refine blk_drewN ?_ _ | refine blk_drew ?_ | refine blk_alloc ?_ _)); refine blk_put (cs := #[.bool t177, .bool false, .int .i64 0, .int .i64 0, .int .i64 0, .int .i64 0]) ?_ 1 _ rfl; (with_reducible repeat (first | refine blk_drewN ?_ _ | refine blk_drew ?_ | refine blk_alloc ?_ _)); refine blk_put (cs := #[.bool false, .bool false, .int .i64 0, .int .i64 0, .int .i64 0, .int .i64 0]) ?_ 0 _ rfl; (with_reducible repeat (first | refine blk_drewN ?_ _ | refine blk_drew ?_ | refine blk_alloc ?_ _)); exact BK184.out) hb); have n3_ := Aside0.mk (below_step (by repeat (first | (with_reducible first | exact HB.out | apply below_alloc | apply pw_below_drewN | apply below_drew1 | refine below_set ?_ GE168.out | refine below_set ?_ GE170.out | refine below_set ?_ GE184.out) | exact HB.out)) hb); clear BK168; clear BK170; clear BK184; clear HB; have BK168 := n0_; have BK170 := n1_; have BK184 := n2_; have HB := n3_; clear n0_ n1_ n2_ n3_; (try clear hb); (try clear hb2); (try clear hk); (try clear hi); have hcz39_0 : w38.cell? ⟨gb184, 0, none⟩ = some (.bool t177) := (blk_cell BK184.out 0).trans rfl; have hcz39_1 : w38.cell? ⟨gb184, 1, none⟩ = some (.bool t178) := (blk_cell BK184.out 1).trans rfl; have hcz39_2 : w38.cell? ⟨gb184, 2, none⟩ = some (.int .i64 t179) := (blk_cell BK184.out 2).trans rfl; have hcz39_3 : w38.cell? ⟨gb184, 3, none⟩ = some (.int .i64 t180) := (blk_cell BK184.out 3).trans rfl; have hcz39_4 : w38.cell? ⟨gb184, 4, none⟩ = some (.int .i64 t181) := (blk_cell BK184.out 4).trans rfl; have hcz39_5 : w38.cell? ⟨gb184, 5, none⟩ = some (.int .i64 t182) := (blk_cell BK184.out 5).trans rfl; have hfz39_0 := blk_frozen BK184.out 0; have hfz39_1 := blk_frozen BK184.out 1; have hfz39_2 := blk_frozen BK184.out 2; have hfz39_3 := blk_frozen BK184.out 3; have hfz39_4 := blk_frozen BK184.out 4; have hfz39_5 := blk_frozen BK184.out 5; have hcz40_0 : w38.cell? ⟨gb168, 0, none⟩ = some (.bool a0_0) := (blk_cell BK168.out 0).trans rfl; have hcz40_1 : w38.cell? ⟨gb168, 1, none⟩ = some (.bool a0_1) := (blk_cell BK168.out 1).trans rfl; have hcz40_2 : w38.cell? ⟨gb168, 2, none⟩ = some (.int .i64 a0_2) := (blk_cell BK168.out 2).trans rfl; have hcz40_3 : w38.cell? ⟨gb168, 3, none⟩ = some (.int .i64 a0_3) := (blk_cell BK168.out 3).trans rfl; have hcz40_4 : w38.cell? ⟨gb168, 4, none⟩ = some (.int .i64 a0_4) := (blk_cell BK168.out 4).trans rfl; have hcz40_5 : w38.cell? ⟨gb168, 5, none⟩ = some (.int .i64 a0_5) := (blk_cell BK168.out 5).trans rfl; have hfz40_0 := blk_frozen BK168.out 0; have hfz40_1 := blk_frozen BK168.out 1; have hfz40_2 := blk_frozen BK168.out 2; have hfz40_3 := blk_frozen BK168.out 3; have hfz40_4 := blk_frozen BK168.out 4; have hfz40_5 := blk_frozen BK168.out 5))
         go_ret
         exact ⟨by first | rfl | (simp [errW_none, errW_some] <;> rfl) | (simp [*, errW_none, errW_some] <;> rfl), by repeat (first | (with_reducible first | exact HB.out | apply below_alloc | apply pw_below_drewN | apply below_drew1 | refine below_set ?_ GE168.out | refine below_set ?_ GE170.out | refine below_set ?_ GE184.out) | exact HB.out)⟩
        ·rw [if_neg c30] at H
         have c30b0 : (t183 == 0) = false := beq_eq_false_iff_ne.mpr c30
         have c30b1 : (t183 != 0) = true := bne_iff_ne.mpr c30
         exact absurd ((Option.some.inj H).trans HT_.out) (by decide)
       ·rw [if_neg c29] at H
        have c29b0 : (t172.toList == t185.toList) = false := beq_eq_false_iff_ne.mpr c29
        have c29b1 : (t172.toList != t185.toList) = true := bne_iff_ne.mpr c29
        exact absurd ((Option.some.inj H).trans HT_.out) (by decide)
      ·rw [if_neg c27] at H
       have c27b0 : (t173 == 0) = false := beq_eq_false_iff_ne.mpr c27
       have c27b1 : (t173 != 0) = true := bne_iff_ne.mpr c27
       exact absurd ((Option.some.inj H).trans HT_.out) (by decide)
     ·replace c25 := Bool.eq_false_iff.mpr c25
      subst c25
      (try simp only [Bool.true_beq, Bool.false_beq, beq_true, beq_false] at c17b0)
      have H1 : (if t172.toList = ([] : List UInt8) then (some (t173 == 1)) else (some false)) = some r := by rw [if_neg (show ¬ (false = true) by decide)] at H; exact H
      clear H
      have H := H1
      clear H1
      by_cases c41 : t172.toList = ([] : List UInt8)
      ·rw [if_pos c41] at H
       have c41b0 : (t172.toList == ([] : List UInt8)) = true := beq_iff_eq.mpr c41
       (try (have c41b0e : (t172.toList.isEmpty) = true := by simpa using c41b0))
       have c41b1 : (t172.toList != ([] : List UInt8)) = false := bne_eq_false_iff_eq.mpr c41
       clear c41
       obtain rfl := Option.some.inj H
       go_wp2
       go_ret
       exact ⟨by first | rfl | (simp [errW_none, errW_some] <;> rfl) | (simp [*, errW_none, errW_some] <;> rfl), by repeat (first | (with_reducible first | exact HB.out | apply below_alloc | apply pw_below_drewN | apply below_drew1 | refine below_set ?_ GE168.out | refine below_set ?_ GE170.out) | exact HB.out)⟩
      ·rw [if_neg c41] at H
       have c41b0 : (t172.toList == ([] : List UInt8)) = false := beq_eq_false_iff_ne.mpr c41
       (try (have c41b0e : (t172.toList.isEmpty) = false := by simpa using c41b0))
       have c41b1 : (t172.toList != ([] : List UInt8)) = true := bne_iff_ne.mpr c41
       exact absurd ((Option.some.inj H).trans HT_.out) (by decide)
 ·replace c3 := Bool.eq_false_iff.mpr c3
  subst c3
  have H1 : (some false) = some r := by rw [if_neg (show ¬ (false = true) by decide)] at H; exact H
  clear H
  have H := H1
  clear H1
  exact absurd ((Option.some.inj H).trans HT_.out) (by decide)

end Go.Proofs.Ytpmieapgbdbabaa.QXidPuts
end

section
/- The plain law of XidPuts: the bytes of right parameters are the document's, and are read back; others have none. -/
set_option linter.unusedVariables false
set_option linter.unusedSimpArgs false
namespace Go.Proofs.Ytpmieapgbdbabaa.Pure
open Go.RowKit Go.Proofs.Ytpmieapgbdbabaa.QXidPuts Go.Proofs.YtpmieapgbdbabaaW.PrintWords Go.Proofs.YtpmieapgbdbabaaW.PrintLast

theorem ba_ext {a b : ByteArray} (h : a.data.toList = b.data.toList) : a = b := by
  obtain ⟨a⟩ := a
  obtain ⟨b⟩ := b
  congr 1
  exact Array.ext' h
theorem dl_app (a b : ByteArray) : (a ++ b).data.toList = a.data.toList ++ b.data.toList := by simp
theorem xbounds {wd sr : Bool} {n k t m : Int} (h : xrB wd sr n k t m = true) : 16 ≤ n ∧ n ≤ 256 ∧ 1 ≤ k ∧ k ≤ 63 ∧ 4 ≤ t ∧ t ≤ 255 ∧ 1 ≤ m ∧ m ≤ 15 := by
  unfold xrB at h
  simp only [Bool.and_eq_true, decide_eq_true_eq] at h
  have : xmost wd sr ≤ 63 := by cases wd <;> cases sr <;> decide
  omega
theorem ref_most (wd sr : Bool) (K : Nat) (hK : 2 ≤ K) : squelchref08_Most.f K wd sr = some (xmost wd sr) := by
  obtain ⟨K, rfl⟩ : ∃ k, K = k + 1 := ⟨K - 1, by omega⟩
  cases wd <;> cases sr <;> rfl
theorem ref_right (wd sr : Bool) (n k t m : Int) (K : Nat) (hK : 2 ≤ K) : squelchref08_Right.f K wd sr n k t m = some (xrB wd sr n k t m) := by
  unfold squelchref08_Right.f xrB
  rw [ref_most wd sr K hK]
  simp only [Option.bind_some]
  by_cases h1 : 16 ≤ n
  · rw [if_pos (show n ≥ 16 from h1)]
    by_cases h2 : n ≤ 256
    · rw [if_pos h2, show decide (16 ≤ n ∧ n ≤ 256) = true from decide_eq_true ⟨h1, h2⟩, Bool.true_and]
      by_cases h3 : 1 ≤ k
      · rw [if_pos (show k ≥ 1 from h3)]
        by_cases h4 : k ≤ xmost wd sr
        · rw [if_pos h4, show decide (1 ≤ k ∧ k ≤ xmost wd sr) = true from decide_eq_true ⟨h3, h4⟩, Bool.true_and]
          by_cases h5 : 4 ≤ t
          · rw [if_pos (show t ≥ 4 from h5)]
            by_cases h6 : t ≤ 255
            · rw [if_pos h6, show decide (4 ≤ t ∧ t ≤ 255) = true from decide_eq_true ⟨h5, h6⟩, Bool.true_and]
              by_cases h7 : 1 ≤ m
              · rw [if_pos (show m ≥ 1 from h7)]
                congr 1
                exact decide_eq_decide.2 ⟨fun h => ⟨h7, h⟩, fun h => h.2⟩
              · rw [if_neg (show ¬ m ≥ 1 from h7), show decide (1 ≤ m ∧ m ≤ 15) = false from decide_eq_false (fun h => h7 h.1)]
            · rw [if_neg h6, show decide (4 ≤ t ∧ t ≤ 255) = false from decide_eq_false (fun h => h6 h.2)]; rfl
          · rw [if_neg (show ¬ t ≥ 4 from h5), show decide (4 ≤ t ∧ t ≤ 255) = false from decide_eq_false (fun h => h5 h.1)]; rfl
        · rw [if_neg h4, show decide (1 ≤ k ∧ k ≤ xmost wd sr) = false from decide_eq_false (fun h => h4 h.2)]; rfl
      · rw [if_neg (show ¬ k ≥ 1 from h3), show decide (1 ≤ k ∧ k ≤ xmost wd sr) = false from decide_eq_false (fun h => h3 h.1)]; rfl
    · rw [if_neg h2, show decide (16 ≤ n ∧ n ≤ 256) = false from decide_eq_false (fun h => h2 h.2)]; rfl
  · rw [if_neg (show ¬ n ≥ 16 from h1), show decide (16 ≤ n ∧ n ≤ 256) = false from decide_eq_false (fun h => h1 h.1)]; rfl
def u8 (x : Int) : UInt8 := UInt8.ofNat x.toNat
def canI (wd sr : Bool) : Int := (if wd = true then 2 else 0) + (if sr = true then 4 else 0)
def xbytes (wd sr : Bool) (n k t m : Int) : List UInt8 := [130, 128, 0, 17, 3, 2, u8 (canI wd sr), 0, 6, 2, u8 (n / 256), u8 (n % 256), 8, 1, u8 k, 9, 1, u8 t, 10, 1, u8 m]
def xputS (wd sr : Bool) (n k t m : Int) : ByteArray := ⟨(xbytes wd sr n k t m).toArray⟩
theorem or_bits (wd sr : Bool) : Go.bits .or .i64 (bit2 wd 2) (bit2 sr 4) = canI wd sr := by cases wd <;> cases sr <;> kernel_rfl
theorem and_all : ((List.range 257).all fun a => decide (Go.bits .and .i64 (a : Int) 255 = (a : Int) % 256)) = true := by kernel_rfl
theorem and_bits (n : Int) (h0 : 0 ≤ n) (h1 : n ≤ 256) : Go.bits .and .i64 n 255 = n % 256 := by
  obtain ⟨a, rfl⟩ := Int.eq_ofNat_of_zero_le h0
  exact of_decide_eq_true (List.all_eq_true.1 and_all a (List.mem_range.2 (by omega)))
theorem w64 (x : Int) (h0 : 0 ≤ x) (h1 : x ≤ 4611686018427387904) : wrap64 x = x := by unfold wrap64; omega
theorem w1 : wrap64 1 = 1 := w64 1 (by omega) (by omega)
theorem w2 : wrap64 2 = 2 := w64 2 (by omega) (by omega)
theorem w1' : wrap64 (1 + 1) = 2 := w64 2 (by omega) (by omega)
theorem field1 (a x : Int) : xid_field.f 9 a [x] = some (strOfNums [a % 256, 1 % 256, x % 256]) := by
  simp [xid_field.f, xid_field.l0, w1, rd]
theorem field2 (a x y : Int) : xid_field.f 9 a [x, y] = some (strOfNums [a % 256, 2 % 256, x % 256, y % 256]) := by
  simp [xid_field.f, xid_field.l0, w1, w2, w1', rd]
theorem field_mono {K : Nat} {a : Int} {l : List Int} {r : ByteArray} (h : xid_field.f 9 a l = some r) (hK : 9 ≤ K) : xid_field.f K a l = some r := by
  induction hK with
  | refl => exact h
  | step _ ih => exact xid_field.mono _ _ _ _ ih
theorem sn_app (xs ys : List Int) : strOfNums (xs ++ ys) = strOfNums xs ++ strOfNums ys := by
  apply ba_ext
  rw [dl_app]
  show (List.map _ (xs ++ ys)) = List.map _ xs ++ List.map _ ys
  rw [List.map_append]
theorem c2 : (⟨#[130, 128]⟩ : ByteArray).size = 2 := rfl
theorem put_f (wd sr : Bool) (n k t m : Int) (K : Nat) (hK : 9 ≤ K) : xid_Put.f K wd sr n k t m = some (if xrB wd sr n k t m = true then (xputS wd sr n k t m, 0) else (⟨#[]⟩, 1)) := by
  unfold xid_Put.f
  rw [xright_eq, Option.bind_some]
  cases h : xrB wd sr n k t m with
  | false => rw [if_neg (by decide), if_neg (by decide)]
  | true =>
    have hb := xbounds h
    rw [if_pos rfl, if_pos rfl, bit_f, Option.bind_some, bit_f, Option.bind_some, or_bits, field_mono (field2 _ _ _) hK, Option.bind_some, field_mono (field2 _ _ _) hK, Option.bind_some, and_bits n (by omega) (by omega)]
    rw [if_pos (by simp only [strOfNums_size, List.length_cons, List.length_nil]; omega), field_mono (field1 _ _) hK, Option.bind_some]
    rw [if_pos (by simp only [ByteArray.size_append, strOfNums_size, List.length_cons, List.length_nil, c2]; omega), field_mono (field1 _ _) hK, Option.bind_some]
    rw [if_pos (by simp only [ByteArray.size_append, strOfNums_size, List.length_cons, List.length_nil, c2]; omega), field_mono (field1 _ _) hK, Option.bind_some]
    rw [if_pos (by simp only [ByteArray.size_append, strOfNums_size, List.length_cons, List.length_nil, c2]; omega), Option.bind_some]
    rw [if_pos (by simp only [strOfNums_size, List.length_cons, List.length_nil]; omega), if_pos (by simp only [ByteArray.size_append, strOfNums_size, List.length_cons, List.length_nil, c2]; omega)]
    congr 1
    congr 1
    apply ba_ext
    simp only [dl_app, strOfNums_data, ByteArray.size_append, strOfNums_size, List.map_cons, List.map_nil, List.length_cons, List.length_nil]
    have e1 : n / 256 % 256 = n / 256 := by omega
    have e2 : n % 256 % 256 = n % 256 := by omega
    have e3 : k % 256 = k := by omega
    have e4 : t % 256 = t := by omega
    have e5 : m % 256 = m := by omega
    have e6 : canI wd sr % 256 = canI wd sr := by cases wd <;> cases sr <;> decide
    rw [e1, e2, e3, e4, e5, e6]
    rfl
theorem ref_l0 (l : List Int) (hl : l.length ≤ 1000) : ∀ (d i K : Nat), l.length - i ≤ d → d + 1 ≤ K → i ≤ l.length →
    squelchref08_Put.l0 K l (strOfNums ((l.take i).map (· % 256))) (i : Int) = some (strOfNums (l.map (· % 256)))
  | d, i, 0, _, hK, _ => absurd hK (by omega)
  | 0, i, K + 1, hd, _, hi => by
    obtain rfl : i = l.length := by omega
    rw [squelchref08_Put.l0, if_neg (by omega), List.take_length]
  | d + 1, i, K + 1, hd, hK, hi => by
    by_cases h : i < l.length
    · rw [squelchref08_Put.l0, if_pos (by omega), if_pos (by omega), Option.bind_some, if_pos (by rw [strOfNums_size, strOfNums_size]; simp; omega), ← sn_app, w64 _ (by omega) (by omega)]
      have e : rd l (i : Int) = l[i] := by
        unfold rd
        rw [Int.toNat_natCast, List.getD_eq_getElem?_getD, List.getElem?_eq_getElem h]
        rfl
      have h2 := ref_l0 l hl d (i + 1) K (by omega) (by omega) (by omega)
      rw [List.take_succ_eq_append_getElem h, List.map_append] at h2
      rw [e]
      exact h2
    · obtain rfl : i = l.length := by omega
      rw [squelchref08_Put.l0, if_neg (by omega), List.take_length]
theorem ref_put {wd sr : Bool} {n k t m : Int} (h : xrB wd sr n k t m = true) (K : Nat) (hK : 40 ≤ K) : squelchref08_Put.f K wd sr n k t m = some (xputS wd sr n k t m) := by
  have hb := xbounds h
  obtain ⟨K, rfl⟩ : ∃ k, K = k + 2 := ⟨K - 2, by omega⟩
  have hj : ∀ c : Int, c = canI wd sr → squelchref08_Put.j1 (K + 1) c wd sr n k t m = some (xputS wd sr n k t m) := by
    intro c hc
    rw [squelchref08_Put.j1, Option.bind_some, if_pos (by simp)]
    have hs : ([130, 128, 0, 18, 3, 2, c, 0, 6, 2, wrap64 (Int.tdiv n 256), Int.tmod n 256, 8, 1, k, 9, 1, t, 10, 1, m] : List Int).set (3 : Int).toNat (wrap64 ((([130, 128, 0, 18, 3, 2, c, 0, 6, 2, wrap64 (Int.tdiv n 256), Int.tmod n 256, 8, 1, k, 9, 1, t, 10, 1, m] : List Int).length : Int) - 4)) = [130, 128, 0, 17, 3, 2, c, 0, 6, 2, n / 256, n % 256, 8, 1, k, 9, 1, t, 10, 1, m] := by
      have e1 : Int.tdiv n 256 = n / 256 := Int.tdiv_eq_ediv_of_nonneg (by omega)
      have e2 : Int.tmod n 256 = n % 256 := Int.tmod_eq_emod_of_nonneg (by omega)
      rw [e1, e2, w64 (n / 256) (by omega) (by omega)]
      have e3 : wrap64 ((([130, 128, 0, 18, 3, 2, c, 0, 6, 2, n / 256, n % 256, 8, 1, k, 9, 1, t, 10, 1, m] : List Int).length : Int) - 4) = 17 := w64 17 (by omega) (by omega)
      rw [e3]
      rfl
    rw [hs]
    have h0 := ref_l0 [130, 128, 0, 17, 3, 2, c, 0, 6, 2, n / 256, n % 256, 8, 1, k, 9, 1, t, 10, 1, m] (by simp) 21 0 K (by simp) (by omega) (by omega)
    rw [List.take_zero] at h0
    have hz : strOfNums (([] : List Int).map (· % 256)) = (⟨#[]⟩ : ByteArray) := rfl
    rw [hz] at h0
    refine Eq.trans h0 ?_
    congr 1
    apply ba_ext
    simp only [strOfNums_data, List.map_cons, List.map_nil]
    have e1 : n / 256 % 256 = n / 256 := by omega
    have e2 : n % 256 % 256 = n % 256 := by omega
    have e3 : k % 256 = k := by omega
    have e4 : t % 256 = t := by omega
    have e5 : m % 256 = m := by omega
    have e6 : c % 256 = canI wd sr := by rw [hc]; cases wd <;> cases sr <;> decide
    rw [e1, e2, e3, e4, e5, e6]
    rfl
  unfold squelchref08_Put.f
  cases wd with
  | true =>
    rw [if_pos rfl, squelchref08_Put.j0]
    cases sr with
    | true =>
      rw [if_pos rfl]
      exact hj _ (by rw [w64 _ (by omega) (by omega)]; rfl)
    | false =>
      rw [if_neg (by decide)]
      exact hj _ rfl
  | false =>
    rw [if_neg (by decide), squelchref08_Put.j0]
    cases sr with
    | true =>
      rw [if_pos rfl]
      exact hj _ (by rw [w64 _ (by omega) (by omega)]; rfl)
    | false =>
      rw [if_neg (by decide)]
      exact hj _ rfl
theorem step {f : Nat} {rest rest' pb : ByteArray} {p p' : XP} {seen : List Int} {a l : Int} (h0 : 2 ≤ rest.size) (ha : bt rest 0 = a) (hb : bt rest 1 = l) (hle : l ≤ (rest.size : Int) - 2) (hs : seen.contains a = false)
    (hp : rest.extract 2 (2 + l).toNat = pb) (hr : rest.extract (2 + l).toNat rest.size = rest') (hset : setF p a pb = (p', true)) : xgetO (f + 1) rest p seen = xgetO f rest' p' (seen ++ [a]) := by
  have e1 : pbytes rest = pb := by unfold pbytes; rw [hb]; exact hp
  have e2 : prest rest = rest' := by unfold prest; rw [hb]; exact hr
  rw [xgetO, if_neg (by omega), ha, hb, e1, e2, hset, if_pos ⟨h0, hle, hs, rfl⟩]
theorem ext_lit (s : ByteArray) (a b : Nat) (l : List UInt8) (h : (s.data.toList.drop a).take (b - a) = l) : s.extract a b = ⟨l.toArray⟩ := by
  apply ba_ext
  rw [show (s.extract a b).data.toList = (s.data.toList.drop a).take (b - a) by simp [ByteArray.data_extract, List.take_drop], h]
theorem num1_all : ((List.range 256).all fun a => decide (numS ⟨#[u8 (a : Int)]⟩ = (a : Int))) = true := by kernel_rfl
theorem num1 (x : Int) (h0 : 0 ≤ x) (h1 : x ≤ 255) : numS ⟨#[u8 x]⟩ = x := by
  obtain ⟨a, rfl⟩ := Int.eq_ofNat_of_zero_le h0
  exact of_decide_eq_true (List.all_eq_true.1 num1_all a (List.mem_range.2 (by omega)))
theorem num2_all : ((List.range 257).all fun a => decide (numS ⟨#[u8 ((a : Int) / 256), u8 ((a : Int) % 256)]⟩ = (a : Int))) = true := by kernel_rfl
theorem num2 (x : Int) (h0 : 0 ≤ x) (h1 : x ≤ 256) : numS ⟨#[u8 (x / 256), u8 (x % 256)]⟩ = x := by
  obtain ⟨a, rfl⟩ := Int.eq_ofNat_of_zero_le h0
  exact of_decide_eq_true (List.all_eq_true.1 num2_all a (List.mem_range.2 (by omega)))
theorem set3 (wd sr : Bool) (p : XP) : setF p 3 ⟨#[u8 (canI wd sr), 0]⟩ = ({ p with wd := wd, sr := sr }, true) := by
  have hn : numS ⟨#[u8 (canI wd sr), 0]⟩ = canI wd sr * 256 := by cases wd <;> cases sr <;> kernel_rfl
  have h1 : (Go.bits .and .i64 (canI wd sr * 256 / 256) 2 != 0) = wd := by cases wd <;> cases sr <;> kernel_rfl
  have h2 : (Go.bits .and .i64 (canI wd sr * 256 / 256) 4 != 0) = sr := by cases wd <;> cases sr <;> kernel_rfl
  rw [setF_3, hn, h1, h2, or_bits, if_pos]
  · rfl
  · cases wd <;> cases sr <;> (rw [w64 _ (by decide) (by decide)])
theorem set6 (p : XP) (n : Int) (h0 : 0 ≤ n) (h1 : n ≤ 256) : setF p 6 ⟨#[u8 (n / 256), u8 (n % 256)]⟩ = ({ p with n := n }, true) := by
  rw [show setF p 6 ⟨#[u8 (n / 256), u8 (n % 256)]⟩ = ({ p with n := numS ⟨#[u8 (n / 256), u8 (n % 256)]⟩ }, true) from rfl, num2 n h0 h1]
theorem set8 (p : XP) (n : Int) (h0 : 0 ≤ n) (h1 : n ≤ 255) : setF p 8 ⟨#[u8 n]⟩ = ({ p with k := n }, true) := by
  rw [show setF p 8 ⟨#[u8 n]⟩ = ({ p with k := numS ⟨#[u8 n]⟩ }, true) from rfl, num1 n h0 h1]
theorem set9 (p : XP) (n : Int) (h0 : 0 ≤ n) (h1 : n ≤ 255) : setF p 9 ⟨#[u8 n]⟩ = ({ p with t := n }, true) := by
  rw [show setF p 9 ⟨#[u8 n]⟩ = ({ p with t := numS ⟨#[u8 n]⟩ }, true) from rfl, num1 n h0 h1]
theorem set10 (p : XP) (n : Int) (h0 : 0 ≤ n) (h1 : n ≤ 255) : setF p 10 ⟨#[u8 n]⟩ = ({ p with m := n }, true) := by
  rw [show setF p 10 ⟨#[u8 n]⟩ = ({ p with m := numS ⟨#[u8 n]⟩ }, true) from rfl, num1 n h0 h1]
theorem get_put {wd sr : Bool} {n k t m : Int} (h : xrB wd sr n k t m = true) : xid_Get.f (xputS wd sr n k t m) = some (wd, sr, n, k, t, m, 0) := by
  have hb := xbounds h
  have hz : (xputS wd sr n k t m).size = 21 := rfl
  have hx4 : (xputS wd sr n k t m).extract 2 4 = ⟨#[0, 17]⟩ := ext_lit _ _ _ [0, 17] rfl
  have hr0 : (xputS wd sr n k t m).extract 4 (xputS wd sr n k t m).size = ⟨#[3, 2, u8 (canI wd sr), 0, 6, 2, u8 (n / 256), u8 (n % 256), 8, 1, u8 k, 9, 1, u8 t, 10, 1, u8 m]⟩ :=
    ext_lit _ _ _ [3, 2, u8 (canI wd sr), 0, 6, 2, u8 (n / 256), u8 (n % 256), 8, 1, u8 k, 9, 1, u8 t, 10, 1, u8 m] rfl
  have hpre : strings_HasPrefix.f (xputS wd sr n k t m) ⟨#[130, 128]⟩ = some true := by
    unfold strings_HasPrefix.f stringslite_HasPrefix.f
    rw [hz, c2, if_pos (by omega), if_pos (by omega), if_pos (by omega), Option.bind_some]
    congr 1
    have : (xputS wd sr n k t m).extract 0 ((2 : Nat) : Int).toNat = ⟨#[130, 128]⟩ := ext_lit _ _ _ [130, 128] rfl
    rw [this]
    simp
  have h17 : numS ⟨#[0, 17]⟩ = 17 := by kernel_rfl
  unfold xid_Get.f
  rw [hx4, hr0, if_pos ⟨by rw [hz]; omega, by rw [hz]; omega, hpre, by rw [h17]; rfl⟩, hz]
  rw [step (rest := ⟨#[3, 2, u8 (canI wd sr), 0, 6, 2, u8 (n / 256), u8 (n % 256), 8, 1, u8 k, 9, 1, u8 t, 10, 1, u8 m]⟩) (a := 3) (l := 2) (show 2 ≤ (17 : Nat) by omega) rfl rfl (show (2 : Int) ≤ ((17 : Nat) : Int) - 2 by omega) rfl (ext_lit _ _ _ [u8 (canI wd sr), 0] rfl) (ext_lit _ _ _ [6, 2, u8 (n / 256), u8 (n % 256), 8, 1, u8 k, 9, 1, u8 t, 10, 1, u8 m] rfl) (set3 wd sr _)]
  rw [step (rest := ⟨#[6, 2, u8 (n / 256), u8 (n % 256), 8, 1, u8 k, 9, 1, u8 t, 10, 1, u8 m]⟩) (a := 6) (l := 2) (show 2 ≤ (13 : Nat) by omega) rfl rfl (show (2 : Int) ≤ ((13 : Nat) : Int) - 2 by omega) rfl (ext_lit _ _ _ [u8 (n / 256), u8 (n % 256)] rfl) (ext_lit _ _ _ [8, 1, u8 k, 9, 1, u8 t, 10, 1, u8 m] rfl) (set6 _ n (by omega) (by omega))]
  rw [step (rest := ⟨#[8, 1, u8 k, 9, 1, u8 t, 10, 1, u8 m]⟩) (a := 8) (l := 1) (show 2 ≤ (9 : Nat) by omega) rfl rfl (show (1 : Int) ≤ ((9 : Nat) : Int) - 2 by omega) rfl (ext_lit _ _ _ [u8 k] rfl) (ext_lit _ _ _ [9, 1, u8 t, 10, 1, u8 m] rfl) (set8 _ k (by omega) (by omega))]
  rw [step (rest := ⟨#[9, 1, u8 t, 10, 1, u8 m]⟩) (a := 9) (l := 1) (show 2 ≤ (6 : Nat) by omega) rfl rfl (show (1 : Int) ≤ ((6 : Nat) : Int) - 2 by omega) rfl (ext_lit _ _ _ [u8 t] rfl) (ext_lit _ _ _ [10, 1, u8 m] rfl) (set9 _ t (by omega) (by omega))]
  rw [step (rest := ⟨#[10, 1, u8 m]⟩) (a := 10) (l := 1) (show 2 ≤ (3 : Nat) by omega) rfl rfl (show (1 : Int) ≤ ((3 : Nat) : Int) - 2 by omega) rfl (ext_lit _ _ _ [u8 m] rfl) (ext_lit _ _ _ [] rfl) (set10 _ m (by omega) (by omega))]
  rw [xgetO, if_pos (show (⟨List.toArray []⟩ : ByteArray).size = 0 from rfl)]
  simp only
  rw [if_pos h]
  rfl
theorem awake08 : squelchlaw08_awake.f 60 = some true := by kernel_rfl
theorem XidPuts : ∀ (a0_0 a0_1 : Bool) (a0_2 a0_3 a0_4 a0_5 : Int), (Lit.int .i64 a0_2).wf = true → (Lit.int .i64 a0_3).wf = true → (Lit.int .i64 a0_4).wf = true → (Lit.int .i64 a0_5).wf = true → ∃ k, squelchlaw08_XidPuts.f k a0_0 a0_1 a0_2 a0_3 a0_4 a0_5 = some true := by
  intro wd sr n k t m _ _ _ _
  refine ⟨60, ?_⟩
  unfold squelchlaw08_XidPuts.f
  rw [awake08, Option.bind_some, if_pos rfl, ref_right _ _ _ _ _ _ 60 (by omega), Option.bind_some, put_f _ _ _ _ _ _ 60 (by omega), Option.bind_some, xright_eq, Option.bind_some, if_neg (by simp), xmost_eq, Option.bind_some, ref_most _ _ 60 (by omega), Option.bind_some]
  have hm : (xmost wd sr != xmost wd sr) = false := by simp
  rw [hm, squelchlaw08_XidPuts.j0, if_neg (by decide)]
  cases h : xrB wd sr n k t m with
  | false =>
    rw [if_neg Bool.false_ne_true, if_neg Bool.false_ne_true]
    exact if_pos (show (⟨#[]⟩ : ByteArray).toList = [] by rw [Go.ByteArray.toList_eq])
  | true =>
    rw [if_pos rfl, if_pos rfl]
    simp only
    rw [get_put h, Option.bind_some, if_pos trivial, ref_put h 59 (by omega), Option.bind_some, if_pos rfl, if_pos rfl]
    simp
end Go.Proofs.Ytpmieapgbdbabaa.Pure
end

section
/- The statement that the law squelchlaw08.XidPuts is true of every input, its arguments left as they were: the row, out of its walk and its plain law. Written by a program of this session (wip/pp/row.py). -/
namespace Go.Proofs.Ytpmieapgbdbabaa.xidPutsRow
open Go.ChangeShapes Go.WideShapes Go.ChangeAt Go.RowKit
open Go.ChangeMaps (open_string shut_string)
set_option linter.unusedVariables false
set_option linter.unusedSimpArgs false
theorem own : ownKnob Try.prog.godebug = none := by kernel_rfl
theorem laidOut : laidOutB Try.prog = true := by kernel_rfl
theorem cells3 : Try.prog.cellsOf 3 = 1 := by kernel_rfl
theorem cells4 : Try.prog.cellsOf 4 = 1 := by kernel_rfl
theorem cells23 : Try.prog.cellsOf 23 = 6 := by kernel_rfl
set_option maxRecDepth 100000 in
theorem open23 {H : Type} {enc : TypeId × Value → H} {w : World} {fuel : Nat} {cs : List Value} {x : DataW H × List MemPlace} (h : DataW.trod enc Try.prog w 0 (fun _ => true) true fuel 23 cs = some x) :
    ∃ (a_0 : Bool) (a_1 : Bool) (a_2 : Int) (a_3 : Int) (a_4 : Int) (a_5 : Int), cs = [.bool a_0, .bool a_1, .int .i64 a_2, .int .i64 a_3, .int .i64 a_4, .int .i64 a_5] ∧ x.1 = (.agg [(.lit (.bool a_0)), (.lit (.bool a_1)), (.lit (.int .i64 a_2)), (.lit (.int .i64 a_3)), (.lit (.int .i64 a_4)), (.lit (.int .i64 a_5))]) ∧ True ∧ True ∧ (Lit.int .i64 a_2).wf = true ∧ (Lit.int .i64 a_3).wf = true ∧ (Lit.int .i64 a_4).wf = true ∧ (Lit.int .i64 a_5).wf = true := by
  obtain ⟨xs, n, -, rfl, hc, hl, hg⟩ := DataW.trod_struct Try.underlying23 h
  rw [cells23] at hc
  obtain ⟨c0, c1, c2, c3, c4, c5, rfl⟩ : ∃ c0 c1 c2 c3 c4 c5, cs = [c0, c1, c2, c3, c4, c5] := by
    match cs, hc with
    | [c0, c1, c2, c3, c4, c5], _ => exact ⟨_, _, _, _, _, _, rfl⟩
  obtain ⟨y0, y1, y2, y3, y4, y5, rfl⟩ : ∃ y0 y1 y2 y3 y4 y5, xs = [y0, y1, y2, y3, y4, y5] := by
    match xs, hl with
    | [y0, y1, y2, y3, y4, y5], _ => exact ⟨_, _, _, _, _, _, rfl⟩
  clear h hc hl
  have g0 : DataW.trod enc Try.prog w 0 (fun _ => true) true n 4 [c0] = some y0 := by
    have z := hg 0 _ rfl
    simp only [cells4, List.drop_zero, List.drop_succ_cons, List.take_succ_cons, List.take_zero, List.getElem?_cons_zero, List.getElem?_cons_succ] at z
    exact z
  have g1 : DataW.trod enc Try.prog w 0 (fun _ => true) true n 4 [c1] = some y1 := by
    have z := hg 1 _ rfl
    simp only [cells4, List.drop_zero, List.drop_succ_cons, List.take_succ_cons, List.take_zero, List.getElem?_cons_zero, List.getElem?_cons_succ] at z
    exact z
  have g2 : DataW.trod enc Try.prog w 0 (fun _ => true) true n 3 [c2] = some y2 := by
    have z := hg 2 _ rfl
    simp only [cells3, List.drop_zero, List.drop_succ_cons, List.take_succ_cons, List.take_zero, List.getElem?_cons_zero, List.getElem?_cons_succ] at z
    exact z
  have g3 : DataW.trod enc Try.prog w 0 (fun _ => true) true n 3 [c3] = some y3 := by
    have z := hg 3 _ rfl
    simp only [cells3, List.drop_zero, List.drop_succ_cons, List.take_succ_cons, List.take_zero, List.getElem?_cons_zero, List.getElem?_cons_succ] at z
    exact z
  have g4 : DataW.trod enc Try.prog w 0 (fun _ => true) true n 3 [c4] = some y4 := by
    have z := hg 4 _ rfl
    simp only [cells3, List.drop_zero, List.drop_succ_cons, List.take_succ_cons, List.take_zero, List.getElem?_cons_zero, List.getElem?_cons_succ] at z
    exact z
  have g5 : DataW.trod enc Try.prog w 0 (fun _ => true) true n 3 [c5] = some y5 := by
    have z := hg 5 _ rfl
    simp only [cells3, List.drop_zero, List.drop_succ_cons, List.take_succ_cons, List.take_zero, List.getElem?_cons_zero, List.getElem?_cons_succ] at z
    exact z
  clear hg
  obtain ⟨a_0, e0, rfl⟩ := DataW.trod_bool Try.underlying4 g0
  simp only [List.cons.injEq, and_true] at e0
  subst e0
  obtain ⟨a_1, e1, rfl⟩ := DataW.trod_bool Try.underlying4 g1
  simp only [List.cons.injEq, and_true] at e1
  subst e1
  obtain ⟨a_2, e2, rfl, wa_2⟩ := DataW.trod_int Try.underlying3 g2
  simp only [List.cons.injEq, and_true] at e2
  subst e2
  obtain ⟨a_3, e3, rfl, wa_3⟩ := DataW.trod_int Try.underlying3 g3
  simp only [List.cons.injEq, and_true] at e3
  subst e3
  obtain ⟨a_4, e4, rfl, wa_4⟩ := DataW.trod_int Try.underlying3 g4
  simp only [List.cons.injEq, and_true] at e4
  subst e4
  obtain ⟨a_5, e5, rfl, wa_5⟩ := DataW.trod_int Try.underlying3 g5
  simp only [List.cons.injEq, and_true] at e5
  subst e5
  exact ⟨a_0, a_1, a_2, a_3, a_4, a_5, rfl, by simp only [List.map_cons, List.map_nil], trivial, trivial, wa_2, wa_3, wa_4, wa_5⟩
set_option maxRecDepth 100000 in
theorem lifted (os : Os) (started : os.Started) (H : Type) (enc : TypeId × Value → H) :
    ReturnsInHanded {} Try.checked os 4 .any (Rows.xidPutsSpec.pre6 enc Try.prog Try.f4 Rows.xidPutsRow.domain false) (Rows.xidPutsSpec.post enc Try.prog Try.f4 false true false false) := by
  refine returnsInHanded_of_change_sized (C := Try.checked) own started (by kernel_rfl) Try.func4
    (ChangeSpec.witness6 (enc := enc) (C := Try.checked) false ⟨#[], #[.agg #[.bool false, .bool false, .int .i64 0, .int .i64 0, .int .i64 0, .int .i64 0]], []⟩ 8 (by kernel_rfl) (by kernel_rfl) (by kernel_rfl) (by kernel_rfl)) ?_
  intro W base args ds gs before hval0 hW hcnd hsz0 _
  have hsz : (DataW.weightsEach Try.prog (Try.f4.params.toList ++ Rows.xidPutsSpec.plain.varTypes Try.prog) (ds ++ gs)).all (· ≤ reachBytes) = true := hsz0
  have hval : ∀ (j : Nat) t v, Try.f4.params[j]? = some t → args[j]? = some v → Value.okWide Try.prog W .any base t v := hval0
  have hW' := hW
  obtain ⟨p, q, hA0, hV, rfl, hfz, hnd⟩ := hW
  have hA : DataW.TrodAll enc Try.prog W 0 (fun _ => true) true Try.f4.params.toList args.toList ds p := hA0
  rw [Try.params4] at hA hval hsz
  obtain ⟨v0, vs0, d0, ds0, p0, q0, hargs, rfl, rfl, h0, r0⟩ := trodAll_cons hA
  obtain ⟨rfl, rfl, rfl⟩ := trodAll_nil r0
  obtain rfl : args = #[v0] := by cases args; simp_all
  obtain ⟨rfl, rfl⟩ := trodVars_none hV
  have k0 := h0
  have lt0 : ∀ x ∈ p0, x.block < W.heap.size := by obtain ⟨m, hm⟩ := k0; exact DataW.trod_lt m _ _ _ hm
  obtain ⟨cs0, rfl, -⟩ := okWide_struct Try.underlying23 (hval 0 23 v0 rfl rfl)
  obtain ⟨fu0, hf0⟩ := h0
  obtain ⟨a0_0, a0_1, a0_2, a0_3, a0_4, a0_5, e0, hd0, wa0_0, wa0_1, wa0_2, wa0_3, wa0_4, wa0_5⟩ := open23 hf0
  replace e0 : cs0 = #[.bool a0_0, .bool a0_1, .int .i64 a0_2, .int .i64 a0_3, .int .i64 a0_4, .int .i64 a0_5] := by apply Array.ext'; simpa [Value.cells] using e0
  subst e0
  replace hd0 : d0 = (.agg [(.lit (.bool a0_0)), (.lit (.bool a0_1)), (.lit (.int .i64 a0_2)), (.lit (.int .i64 a0_3)), (.lit (.int .i64 a0_4)), (.lit (.int .i64 a0_5))]) := hd0
  subst hd0
  clear hA0 hval0 hsz0 hsz
  obtain ⟨k, hp⟩ := Pure.XidPuts a0_0 a0_1 a0_2 a0_3 a0_4 a0_5 wa0_2 wa0_3 wa0_4 wa0_5
  refine (QXidPuts.squelchlaw08_XidPuts.calls k a0_0 a0_1 a0_2 a0_3 a0_4 a0_5 true W rfl hp).mono fun e W' ⟨he, bel⟩ => ?_
  subst he
  exact ⟨_, rfl, _, _, _, [], _, [], hW', trodAll_mk1 (shut_bool Try.underlying4 _), (trodAll_cons_mk (Below.trod laidOut (by kernel_rfl) (of_decide_eq_true (by kernel_rfl)) k0 bel lt0) trodAll_mk0), rfl, bel.frame _, fun h => by cases h⟩
theorem over : Rows.xidPutsRow.holds Try.pinned (OpenSpec.ofChange Rows.xidPutsSpec) :=
  OpenClaim.holds_of_wide 4 Try.f4 rfl rfl rfl rfl rfl rfl rfl ⟨rfl, rfl, rfl, rfl, rfl⟩ rfl rfl rfl rfl rfl (by kernel_rfl) Try.func4 (by kernel_rfl)
    (of_decide_eq_true (by kernel_rfl)) (by unfold Func.isWrapper; first | (rw [if_pos (by decide +kernel)]; kernel_rfl) | (rw [if_neg (by decide +kernel)]; exact ⟨rfl, rfl⟩))
    (fun os started H enc _ => lifted os started H enc)
theorem proved : Rows.XidPutsSaid := over
end Go.Proofs.Ytpmieapgbdbabaa.xidPutsRow
namespace Go.Proofs.Ytpmieapgbdbabaa
theorem xidPuts_holds : Rows.XidPutsSaid := xidPutsRow.proved
#print axioms xidPuts_holds
end Go.Proofs.Ytpmieapgbdbabaa
end
