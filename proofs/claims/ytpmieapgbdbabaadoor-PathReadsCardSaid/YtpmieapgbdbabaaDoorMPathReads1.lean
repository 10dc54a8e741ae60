/- Words, walks and plain laws that the row of the law PathReads rests on. -/
import Derived.Test.YtpmieapgbdbabaaDoorMPathReads0
section
/- Walks, written by a program of this session (wip/pp): a Go function comes to what the Lean function beside it tells. -/
namespace Go.Proofs.YtpmieapgbdbabaaDoor.QAll
open Go.RowKit Go.Proofs.YtpmieapgbdbabaaDoorW.PrintWords Go.Proofs.YtpmieapgbdbabaaDoorW.PrintLast Go.Proofs.YtpmieapgbdbabaaDoorW.PrintMore
set_option linter.unusedVariables false
set_option linter.unusedSimpArgs false

mutual
def squelchref04_Right.j0 : Nat → Bool → ByteArray → Int → Option (Bool)
 | 0, _, _, _ => none
 | k + 1, x24, x274000, x274001 => if x24 = true then (some false) else (squelchref04_Right.l0 k 0 x274000 x274001)
def squelchref04_Right.l0 : Nat → Int → ByteArray → Int → Option (Bool)
 | 0, _, _, _ => none
 | k + 1, x3, x274000, x274001 => if x3 < (x274000.size : Int) then (if 0 ≤ x3 then (if (bt x274000 x3) ≥ 65 then (if (bt x274000 x3) ≤ 90 then (squelchref04_Right.l0 k (wrap64 (x3 + 1)) x274000 x274001) else (if (bt x274000 x3) ≥ 48 then (if ((bt x274000 x3) ≤ 57) then (squelchref04_Right.l0 k (wrap64 (x3 + 1)) x274000 x274001) else (some false)) else (some false))) else (if (bt x274000 x3) ≥ 48 then (if ((bt x274000 x3) ≤ 57) then (squelchref04_Right.l0 k (wrap64 (x3 + 1)) x274000 x274001) else (some false)) else (some false))) else (none)) else (some true)
end
def squelchref04_Right.f (k : Nat) (a0_0 : ByteArray) (a0_1 : Int) : Option (Bool) := if (a0_0.size : Int) < 1 then (squelchref04_Right.j0 k true a0_0 a0_1) else (if (a0_0.size : Int) > 6 then (squelchref04_Right.j0 k true a0_0 a0_1) else (if a0_1 < 0 then (squelchref04_Right.j0 k true a0_0 a0_1) else (squelchref04_Right.j0 k (decide (a0_1 > 15)) a0_0 a0_1)))
set_option maxHeartbeats 8000000 in
set_option maxRecDepth 100000 in
theorem squelchref04_Right.calls (k : Nat) (a0_0 : ByteArray) (a0_1 : Int) (r : Bool) (w : World) (h : squelchref04_Right.f k a0_0 a0_1 = some r) :
  Calls Tryd.prog 39 #[.agg #[.string a0_0, .int .i64 a0_1]] w fun e w' => e = .returned (.bool r) ∧ Below w.heap.size w w' := by
 have hu23 := Tryd.underlying23
 have HB := Aside0.mk (Below.refl w.heap.size w)
 have H : (if (a0_0.size : Int) < 1 then (squelchref04_Right.j0 k true a0_0 a0_1) else (if (a0_0.size : Int) > 6 then (squelchref04_Right.j0 k true a0_0 a0_1) else (if a0_1 < 0 then (squelchref04_Right.j0 k true a0_0 a0_1) else (squelchref04_Right.j0 k (decide (a0_1 > 15)) a0_0 a0_1)))) = some r := h
 clear h
 have HC2 := Aside0.mk H
 clear H
 go_enter Tryd.func39, Tryd.ntmps39
 go_upto_region 1 with (first | ((with_reducible refine gate_dst (N := 1) rfl ?_); (try (refine gate_guard (by rfl) ?_; dsimp only)); refine box_event ?hg (N := 1) ?hd (cs := #[.string a0_0, .int .i64 a0_1]) (t := 23) ?hr ?_; (case hd => rfl); (case hg => rfl); (case hr => first | (go_simp; done) | (go_simp; rfl)); intro gb273 hg w3 hbox hb; have n0_ := Aside0.mk (below_step (by repeat (first | (with_reducible first | exact HB.out | apply below_alloc | apply pw_below_drewN | apply below_drew1) | exact HB.out)) hb); have n1_ := Aside0.mk (hbox); have n2_ := Aside0.mk ((by rw [hg]; exact (below_size (by repeat (first | (with_reducible first | exact HB.out | apply below_alloc | apply pw_below_drewN | apply below_drew1) | exact HB.out))) : w.heap.size ≤ gb273)); have n3_ := Aside0.mk ((by rw [hg]; exact (below_size (by repeat (first | (with_reducible first | exact HB.out | apply below_alloc | apply pw_below_drewN | apply below_drew1) | exact HB.out))) : w.heap.size ≤ gb273)); clear HB; have HB := n0_; have BK273 := n1_; have GW273 := n2_; have GE273 := n3_; clear n0_ n1_ n2_ n3_; clear hb hbox hg))
 (try simp only [Act.put, List.setIfInBounds_toArray, List.set_cons_zero, List.set_cons_succ])
 go_cut [24] (fun v24 wc => ∃ (kq : Nat) (x24_1 : Bool), v24 = .bool x24_1 ∧ Aside0 (squelchref04_Right.j0 kq x24_1 a0_0 a0_1 = some r) ∧ Aside0 (kq ≤ k) ∧ Aside0 (wc.heap[gb273]? = some (.cells #[.string a0_0, .int .i64 a0_1] 23 (0, 0))) ∧ Aside0 (Below w.heap.size w wc))
 case first =>
  have H := HC2.out
  clear HC2
  by_cases c4 : (a0_0.size : Int) < 1
  ·rw [if_pos c4] at H
   have c4b0 : decide ((a0_0.size : Int) < 1) = true := decide_eq_true c4
   have c4b1 : decide (a0_0.size < 1) = true := decide_eq_true (by omega)
   clear c4
   (first | rw [c4b0] | (simp only [i64_w, i32_w]; rw [c4b0]) | skip)
   have H' := Aside0.mk H
   clear H
   have hcz5_0 : w3.cell? ⟨gb273, 0, none⟩ = some (.string a0_0) := (blk_cell BK273.out 0).trans rfl
   have hcz5_1 : w3.cell? ⟨gb273, 1, none⟩ = some (.int .i64 a0_1) := (blk_cell BK273.out 1).trans rfl
   have hfz5_0 := blk_frozen BK273.out 0
   have hfz5_1 := blk_frozen BK273.out 1
   go_wp2
   go_meet
   case rel => exact ⟨_, (true), (by first | rfl | (simp; done) | (simp [*]; done) | (simp; exact (fun l : List UInt8 => (by cases l <;> rfl : l.isEmpty = !(l != []))) _)), H', ⟨by first | omega | exact Nat.le_refl _⟩, ⟨by (with_reducible repeat (first | refine blk_drewN ?_ _ | refine blk_drew ?_ | refine blk_alloc ?_ _)); exact BK273.out⟩, ⟨by repeat (first | (with_reducible first | exact HB.out | apply below_alloc | apply pw_below_drewN | apply below_drew1 | refine below_set ?_ GE273.out) | exact HB.out)⟩⟩
  ·rw [if_neg c4] at H
   have c4b0 : decide ((a0_0.size : Int) < 1) = false := decide_eq_false c4
   have c4b1 : decide (a0_0.size < 1) = false := decide_eq_false (by omega)
   clear c4
   (first | rw [c4b0] | (simp only [i64_w, i32_w]; rw [c4b0]) | skip)
   by_cases c6 : (a0_0.size : Int) > 6
   ·rw [if_pos c6] at H
    have c6b0 : decide (6 < (a0_0.size : Int)) = true := decide_eq_true c6
    have c6b1 : decide (6 < a0_0.size) = true := decide_eq_true (by omega)
    clear c6
    have H' := Aside0.mk H
    clear H
    have hcz7_0 : w3.cell? ⟨gb273, 0, none⟩ = some (.string a0_0) := (blk_cell BK273.out 0).trans rfl
    have hcz7_1 : w3.cell? ⟨gb273, 1, none⟩ = some (.int .i64 a0_1) := (blk_cell BK273.out 1).trans rfl
    have hfz7_0 := blk_frozen BK273.out 0
    have hfz7_1 := blk_frozen BK273.out 1
    go_wp2
    go_meet
    case rel => exact ⟨_, (true), (by first | rfl | (simp; done) | (simp [*]; done) | (simp; exact (fun l : List UInt8 => (by cases l <;> rfl : l.isEmpty = !(l != []))) _)), H', ⟨by first | omega | exact Nat.le_refl _⟩, ⟨by (with_reducible repeat (first | refine blk_drewN ?_ _ | refine blk_drew ?_ | refine blk_alloc ?_ _)); exact BK273.out⟩, ⟨by repeat (first | (with_reducible first | exact HB.out | apply below_alloc | apply pw_below_drewN | apply below_drew1 | refine below_set ?_ GE273.out) | exact HB.out)⟩⟩
   ·rw [if_neg c6] at H
    have c6b0 : decide (6 < (a0_0.size : Int)) = false := decide_eq_false c6
    have c6b1 : decide (6 < a0_0.size) = false := decide_eq_false (by omega)
    clear c6
    by_cases c8 : a0_1 < 0
    ·rw [if_pos c8] at H
     have c8b0 : decide (a0_1 < 0) = true := decide_eq_true c8
     clear c8
     have H' := Aside0.mk H
     clear H
     have hcz9_0 : w3.cell? ⟨gb273, 0, none⟩ = some (.string a0_0) := (blk_cell BK273.out 0).trans rfl
     have hcz9_1 : w3.cell? ⟨gb273, 1, none⟩ = some (.int .i64 a0_1) := (blk_cell BK273.out 1).trans rfl
     have hfz9_0 := blk_frozen BK273.out 0
     have hfz9_1 := blk_frozen BK273.out 1
     go_wp2
     go_meet
     case rel => exact ⟨_, (true), (by first | rfl | (simp; done) | (simp [*]; done) | (simp; exact (fun l : List UInt8 => (by cases l <;> rfl : l.isEmpty = !(l != []))) _)), H', ⟨by first | omega | exact Nat.le_refl _⟩, ⟨by (with_reducible repeat (first | refine blk_drewN ?_ _ | refine blk_drew ?_ | refine blk_alloc ?_ _)); exact BK273.out⟩, ⟨by repeat (first | (with_reducible first | exact HB.out | apply below_alloc | apply pw_below_drewN | apply below_drew1 | refine below_set ?_ GE273.out) | exact HB.out)⟩⟩
    ·rw [if_neg c8] at H
     have c8b0 : decide (a0_1 < 0) = false := decide_eq_false c8
     clear c8
     have H' := Aside0.mk H
     clear H
     have hcz10_0 : w3.cell? ⟨gb273, 0, none⟩ = some (.string a0_0) := (blk_cell BK273.out 0).trans rfl
     have hcz10_1 : w3.cell? ⟨gb273, 1, none⟩ = some (.int .i64 a0_1) := (blk_cell BK273.out 1).trans rfl
     have hfz10_0 := blk_frozen BK273.out 0
     have hfz10_1 := blk_frozen BK273.out 1
     go_wp2
     go_meet
     case rel => exact ⟨_, (decide (a0_1 > 15)), (by first | rfl | (simp; done) | (simp [*]; done) | (simp; exact (fun l : List UInt8 => (by cases l <;> rfl : l.isEmpty = !(l != []))) _)), H', ⟨by first | omega | exact Nat.le_refl _⟩, ⟨by (with_reducible repeat (first | refine blk_drewN ?_ _ | refine blk_drew ?_ | refine blk_alloc ?_ _)); exact BK273.out⟩, ⟨by repeat (first | (with_reducible first | exact HB.out | apply below_alloc | apply pw_below_drewN | apply below_drew1 | refine below_set ?_ GE273.out) | exact HB.out)⟩⟩
 case rest =>
  clear HC2
  try clear p2
  try clear c3
  try clear c4
  try clear c4b0
  try clear c4b1
  try clear c6
  try clear c6b0
  try clear c6b1
  try clear c8
  try clear c8b0
  try clear hcz10_0
  try clear hcz10_1
  try clear hcz5_0
  try clear hcz5_1
  try clear hcz7_0
  try clear hcz7_1
  try clear hcz9_0
  try clear hcz9_1
  try clear hfz10_0
  try clear hfz10_1
  try clear hfz5_0
  try clear hfz5_1
  try clear hfz7_0
  try clear hfz7_1
  try clear hfz9_0
  try clear hfz9_1
  obtain ⟨kq, x24_1, rfl, HA, HJ1, BK273, HB⟩ := hcut
  cases kq with
  | zero => exact absurd HA.out (by simp [squelchref04_Right.j0])
  | succ kj1 =>
   have H := HA.out
   clear HA
   simp only [squelchref04_Right.j0] at H
   by_cases c11 : x24_1 = true
   ·subst c11
    have H1 : (some false) = some r := by rw [if_pos rfl] at H; exact H
    clear H
    have H := H1
    clear H1
    obtain rfl := Option.some.inj H
    go_wp2
    go_ret
    exact ⟨by first | rfl | (simp [errW_none, errW_some] <;> rfl) | (simp [*, errW_none, errW_some] <;> rfl), by repeat (first | (with_reducible first | exact HB.out | apply below_alloc | apply pw_below_drewN | apply below_drew1 | refine below_set ?_ GE273.out) | exact HB.out)⟩
   ·replace c11 := Bool.eq_false_iff.mpr c11
    subst c11
    have H1 : (squelchref04_Right.l0 kj1 0 a0_0 a0_1) = some r := by rw [if_neg (show ¬ (false = true) by decide)] at H; exact H
    clear H
    have H := H1
    clear H1
    have H' := Aside0.mk H
    clear H
    go_wp2
    go_loopg [3] kj1 (fun kq v3 w' => ∃ (x3_2 : Int), v3 = .int .i64 x3_2 ∧ Aside0 (squelchref04_Right.l0 kq x3_2 a0_0 a0_1 = some r) ∧ Aside0 (kq ≤ kj1) ∧ Aside0 (w'.heap[gb273]? = some (.cells #[.string a0_0, .int .i64 a0_1] 23 (0, 0))) ∧ Aside0 (Below w.heap.size w w'))
    case atStart => exact ⟨(0), (by first | rfl | (simp; done) | (simp [*]; done) | (simp; exact (fun l : List UInt8 => (by cases l <;> rfl : l.isEmpty = !(l != []))) _)), H', ⟨Nat.le_refl _⟩, ⟨by (with_reducible repeat (first | refine blk_drewN ?_ _ | refine blk_drew ?_ | refine blk_alloc ?_ _)); exact BK273.out⟩, ⟨by repeat (first | (with_reducible first | exact HB.out | apply below_alloc | apply pw_below_drewN | apply below_drew1 | refine below_set ?_ GE273.out) | exact HB.out)⟩⟩
    case round =>
     clear H'
     try clear c1
     try clear p2
     try clear c3
     try clear c4
     try clear c4b0
     try clear c4b1
     try clear c6
     try clear c6b0
     try clear c6b1
     try clear c8
     try clear c8b0
     try clear c11
     try clear hcz10_0
     try clear hcz10_1
     try clear hcz5_0
     try clear hcz5_1
     try clear hcz7_0
     try clear hcz7_1
     try clear hcz9_0
     try clear hcz9_1
     try clear hfz10_0
     try clear hfz10_1
     try clear hfz5_0
     try clear hfz5_1
     try clear hfz7_0
     try clear hfz7_1
     try clear hfz9_0
     try clear hfz9_1
     try clear p2
     obtain ⟨x3_2, rfl, HA, HK2, BK273, HB⟩ := hrel
     cases gk with
     | zero => exact absurd HA.out (by simp [squelchref04_Right.l0])
     | succ k2 =>
      have H := HA.out
      clear HA
      simp only [squelchref04_Right.l0] at H
      by_cases c12 : x3_2 < (a0_0.size : Int)
      ·rw [if_pos c12] at H
       have c12b0 : decide (x3_2 < (a0_0.size : Int)) = true := decide_eq_true c12
       clear c12
       by_cases c13 : 0 ≤ x3_2
       ·rw [if_pos c13] at H
        have c13b0 : decide (0 ≤ x3_2) = true := decide_eq_true c13
        clear c13
        by_cases c15 : (bt a0_0 x3_2) ≥ 65
        ·rw [if_pos c15] at H
         have c15b0 : decide (65 ≤ (bt a0_0 x3_2)) = true := decide_eq_true c15
         clear c15
         by_cases c16 : (bt a0_0 x3_2) ≤ 90
         ·rw [if_pos c16] at H
          have c16b0 : decide ((bt a0_0 x3_2) ≤ 90) = true := decide_eq_true c16
          clear c16
          have H' := Aside0.mk H
          clear H
          have hcz17_0 : wr.cell? ⟨gb273, 0, none⟩ = some (.string a0_0) := (blk_cell BK273.out 0).trans rfl
          have hcz17_1 : wr.cell? ⟨gb273, 1, none⟩ = some (.int .i64 a0_1) := (blk_cell BK273.out 1).trans rfl
          have hfz17_0 := blk_frozen BK273.out 0
          have hfz17_1 := blk_frozen BK273.out 1
          have p14 : 0 ≤ (x3_2 : Int) := of_decide_eq_true (by first | (with_reducible assumption) | assumption)
          have q14 : x3_2 < (a0_0.size : Int) := of_decide_eq_true (by first | (with_reducible assumption) | assumption)
          have hx14 := bt_at a0_0 x3_2
          replace p14 := eq_true p14
          replace q14 := eq_true q14
          go_wp2
          go_roundg k2
          case measure => have := HJ1.out; have := HK2.out; omega
          case rel => exact ⟨(wrap64 (x3_2 + 1)), (by first | rfl | (simp; done) | (simp [*]; done) | (simp; exact (fun l : List UInt8 => (by cases l <;> rfl : l.isEmpty = !(l != []))) _)), H', ⟨by have := HJ1.out; have := HK2.out; omega⟩, ⟨by (with_reducible repeat (first | refine blk_drewN ?_ _ | refine blk_drew ?_ | refine blk_alloc ?_ _)); exact BK273.out⟩, ⟨by repeat (first | (with_reducible first | exact HB.out | apply below_alloc | apply pw_below_drewN | apply below_drew1 | refine below_set ?_ GE273.out) | exact HB.out)⟩⟩
         ·rw [if_neg c16] at H
          have c16b0 : decide ((bt a0_0 x3_2) ≤ 90) = false := decide_eq_false c16
          clear c16
          by_cases c18 : (bt a0_0 x3_2) ≥ 48
          ·rw [if_pos c18] at H
           have c18b0 : decide (48 ≤ (bt a0_0 x3_2)) = true := decide_eq_true c18
           clear c18
           by_cases c19 : ((bt a0_0 x3_2) ≤ 57)
           ·rw [if_pos c19] at H
            have c19b0 : decide ((bt a0_0 x3_2) ≤ 57) = true := decide_eq_true c19
            clear c19
            have H' := Aside0.mk H
            clear H
            have hcz20_0 : wr.cell? ⟨gb273, 0, none⟩ = some (.string a0_0) := (blk_cell BK273.out 0).trans rfl
            have hcz20_1 : wr.cell? ⟨gb273, 1, none⟩ = some (.int .i64 a0_1) := (blk_cell BK273.out 1).trans rfl
            have hfz20_0 := blk_frozen BK273.out 0
            have hfz20_1 := blk_frozen BK273.out 1
            have p14 : 0 ≤ (x3_2 : Int) := of_decide_eq_true (by first | (with_reducible assumption) | assumption)
            have q14 : x3_2 < (a0_0.size : Int) := of_decide_eq_true (by first | (with_reducible assumption) | assumption)
            have hx14 := bt_at a0_0 x3_2
            replace p14 := eq_true p14
            replace q14 := eq_true q14
            go_wp2
            go_roundg k2
            case measure => have := HJ1.out; have := HK2.out; omega
            case rel => exact ⟨(wrap64 (x3_2 + 1)), (by first | rfl | (simp; done) | (simp [*]; done) | (simp; exact (fun l : List UInt8 => (by cases l <;> rfl : l.isEmpty = !(l != []))) _)), H', ⟨by have := HJ1.out; have := HK2.out; omega⟩, ⟨by (with_reducible repeat (first | refine blk_drewN ?_ _ | refine blk_drew ?_ | refine blk_alloc ?_ _)); exact BK273.out⟩, ⟨by repeat (first | (with_reducible first | exact HB.out | apply below_alloc | apply pw_below_drewN | apply below_drew1 | refine below_set ?_ GE273.out) | exact HB.out)⟩⟩
           ·rw [if_neg c19] at H
            have c19b0 : decide ((bt a0_0 x3_2) ≤ 57) = false := decide_eq_false c19
            clear c19
            obtain rfl := Option.some.inj H
            have hcz21_0 : wr.cell? ⟨gb273, 0, none⟩ = some (.string a0_0) := (blk_cell BK273.out 0).trans rfl
            have hcz21_1 : wr.cell? ⟨gb273, 1, none⟩ = some (.int .i64 a0_1) := (blk_cell BK273.out 1).trans rfl
            have hfz21_0 := blk_frozen BK273.out 0
            have hfz21_1 := blk_frozen BK273.out 1
            have p14 : 0 ≤ (x3_2 : Int) := of_decide_eq_true (by first | (with_reducible assumption) | assumption)
            have q14 : x3_2 < (a0_0.size : Int) := of_decide_eq_true (by first | (with_reducible assumption) | assumption)
            have hx14 := bt_at a0_0 x3_2
            replace p14 := eq_true p14
            replace q14 := eq_true q14
            go_wp2
            go_ret
            exact ⟨by first | rfl | (simp [errW_none, errW_some] <;> rfl) | (simp [*, errW_none, errW_some] <;> rfl), by repeat (first | (with_reducible first | exact HB.out | apply below_alloc | apply pw_below_drewN | apply below_drew1 | refine below_set ?_ GE273.out) | exact HB.out)⟩
          ·rw [if_neg c18] at H
           have c18b0 : decide (48 ≤ (bt a0_0 x3_2)) = false := decide_eq_false c18
           clear c18
           obtain rfl := Option.some.inj H
           have hcz22_0 : wr.cell? ⟨gb273, 0, none⟩ = some (.string a0_0) := (blk_cell BK273.out 0).trans rfl
           have hcz22_1 : wr.cell? ⟨gb273, 1, none⟩ = some (.int .i64 a0_1) := (blk_cell BK273.out 1).trans rfl
           have hfz22_0 := blk_frozen BK273.out 0
           have hfz22_1 := blk_frozen BK273.out 1
           have p14 : 0 ≤ (x3_2 : Int) := of_decide_eq_true (by first | (with_reducible assumption) | assumption)
           have q14 : x3_2 < (a0_0.size : Int) := of_decide_eq_true (by first | (with_reducible assumption) | assumption)
           have hx14 := bt_at a0_0 x3_2
           replace p14 := eq_true p14
           replace q14 := eq_true q14
           go_wp2
           go_ret
           exact ⟨by first | rfl | (simp [errW_none, errW_some] <;> rfl) | (simp [*, errW_none, errW_some] <;> rfl), by repeat (first | (with_reducible first | exact HB.out | apply below_alloc | apply pw_below_drewN | apply below_drew1 | refine below_set ?_ GE273.out) | exact HB.out)⟩
        ·rw [if_neg c15] at H
         have c15b0 : decide (65 ≤ (bt a0_0 x3_2)) = false := decide_eq_false c15
         clear c15
         by_cases c23 : (bt a0_0 x3_2) ≥ 48
         ·rw [if_pos c23] at H
          have c23b0 : decide (48 ≤ (bt a0_0 x3_2)) = true := decide_eq_true c23
          clear c23
          by_cases c24 : ((bt a0_0 x3_2) ≤ 57)
          ·rw [if_pos c24] at H
           have c24b0 : decide ((bt a0_0 x3_2) ≤ 57) = true := decide_eq_true c24
           clear c24
           have H' := Aside0.mk H
           clear H
           have hcz25_0 : wr.cell? ⟨gb273, 0, none⟩ = some (.string a0_0) := (blk_cell BK273.out 0).trans rfl
           have hcz25_1 : wr.cell? ⟨gb273, 1, none⟩ = some (.int .i64 a0_1) := (blk_cell BK273.out 1).trans rfl
           have hfz25_0 := blk_frozen BK273.out 0
           have hfz25_1 := blk_frozen BK273.out 1
           have p14 : 0 ≤ (x3_2 : Int) := of_decide_eq_true (by first | (with_reducible assumption) | assumption)
           have q14 : x3_2 < (a0_0.size : Int) := of_decide_eq_true (by first | (with_reducible assumption) | assumption)
           have hx14 := bt_at a0_0 x3_2
           replace p14 := eq_true p14
           replace q14 := eq_true q14
           go_wp2
           go_roundg k2
           case measure => have := HJ1.out; have := HK2.out; omega
           case rel => exact ⟨(wrap64 (x3_2 + 1)), (by first | rfl | (simp; done) | (simp [*]; done) | (simp; exact (fun l : List UInt8 => (by cases l <;> rfl : l.isEmpty = !(l != []))) _)), H', ⟨by have := HJ1.out; have := HK2.out; omega⟩, ⟨by (with_reducible repeat (first | refine blk_drewN ?_ _ | refine blk_drew ?_ | refine blk_alloc ?_ _)); exact BK273.out⟩, ⟨by repeat (first | (with_reducible first | exact HB.out | apply below_alloc | apply pw_below_drewN | apply below_drew1 | refine below_set ?_ GE273.out) | exact HB.out)⟩⟩
          ·rw [if_neg c24] at H
           have c24b0 : decide ((bt a0_0 x3_2) ≤ 57) = false := decide_eq_false c24
           clear c24
           obtain rfl := Option.some.inj H
           have hcz26_0 : wr.cell? ⟨gb273, 0, none⟩ = some (.string a0_0) := (blk_cell BK273.out 0).trans rfl
           have hcz26_1 : wr.cell? ⟨gb273, 1, none⟩ = some (.int .i64 a0_1) := (blk_cell BK273.out 1).trans rfl
           have hfz26_0 := blk_frozen BK273.out 0
           have hfz26_1 := blk_frozen BK273.out 1
           have p14 : 0 ≤ (x3_2 : Int) := of_decide_eq_true (by first | (with_reducible assumption) | assumption)
           have q14 : x3_2 < (a0_0.size : Int) := of_decide_eq_true (by first | (with_reducible assumption) | assumption)
           have hx14 := bt_at a0_0 x3_2
           replace p14 := eq_true p14
           replace q14 := eq_true q14
           go_wp2
           go_ret
           exact ⟨by first | rfl | (simp [errW_none, errW_some] <;> rfl) | (simp [*, errW_none, errW_some] <;> rfl), by repeat (first | (with_reducible first | exact HB.out | apply below_alloc | apply pw_below_drewN | apply below_drew1 | refine below_set ?_ GE273.out) | exact HB.out)⟩
         ·rw [if_neg c23] at H
          have c23b0 : decide (48 ≤ (bt a0_0 x3_2)) = false := decide_eq_false c23
          clear c23
          obtain rfl := Option.some.inj H
          have hcz27_0 : wr.cell? ⟨gb273, 0, none⟩ = some (.string a0_0) := (blk_cell BK273.out 0).trans rfl
          have hcz27_1 : wr.cell? ⟨gb273, 1, none⟩ = some (.int .i64 a0_1) := (blk_cell BK273.out 1).trans rfl
          have hfz27_0 := blk_frozen BK273.out 0
          have hfz27_1 := blk_frozen BK273.out 1
          have p14 : 0 ≤ (x3_2 : Int) := of_decide_eq_true (by first | (with_reducible assumption) | assumption)
          have q14 : x3_2 < (a0_0.size : Int) := of_decide_eq_true (by first | (with_reducible assumption) | assumption)
          have hx14 := bt_at a0_0 x3_2
          replace p14 := eq_true p14
          replace q14 := eq_true q14
          go_wp2
          go_ret
          exact ⟨by first | rfl | (simp [errW_none, errW_some] <;> rfl) | (simp [*, errW_none, errW_some] <;> rfl), by repeat (first | (with_reducible first | exact HB.out | apply below_alloc | apply pw_below_drewN | apply below_drew1 | refine below_set ?_ GE273.out) | exact HB.out)⟩
       ·rw [if_neg c13] at H
        exact absurd H (by simp)
      ·rw [if_neg c12] at H
       have c12b0 : decide (x3_2 < (a0_0.size : Int)) = false := decide_eq_false c12
       clear c12
       obtain rfl := Option.some.inj H
       have hcz28_0 : wr.cell? ⟨gb273, 0, none⟩ = some (.string a0_0) := (blk_cell BK273.out 0).trans rfl
       have hcz28_1 : wr.cell? ⟨gb273, 1, none⟩ = some (.int .i64 a0_1) := (blk_cell BK273.out 1).trans rfl
       have hfz28_0 := blk_frozen BK273.out 0
       have hfz28_1 := blk_frozen BK273.out 1
       go_wp2
       go_ret
       exact ⟨by first | rfl | (simp [errW_none, errW_some] <;> rfl) | (simp [*, errW_none, errW_some] <;> rfl), by repeat (first | (with_reducible first | exact HB.out | apply below_alloc | apply pw_below_drewN | apply below_drew1 | refine below_set ?_ GE273.out) | exact HB.out)⟩

end Go.Proofs.YtpmieapgbdbabaaDoor.QAll
end

section
/- Walks, written by a program of this session (wip/pp): a Go function comes to what the Lean function beside it tells. -/
namespace Go.Proofs.YtpmieapgbdbabaaDoor.QAll
open Go.RowKit Go.Proofs.YtpmieapgbdbabaaDoorW.PrintWords Go.Proofs.YtpmieapgbdbabaaDoorW.PrintLast Go.Proofs.YtpmieapgbdbabaaDoorW.PrintMore
set_option linter.unusedVariables false
set_option linter.unusedSimpArgs false

def squelchref04_Put.l0 : Nat → Bool → Bool → List Int → Int → ByteArray → Int → Option (ByteArray)
 | 0, _, _, _, _, _, _ => none
 | k + 1, x1, x2, x7, x8, x275000, x275001 => if x8 < (x275000.size : Int) then (if 0 ≤ x8 then (if x8 < (x7.length : Int) then (squelchref04_Put.l0 k x1 x2 (x7.set (x8 : Int).toNat ((2 * (bt x275000 x8)) % 256)) (wrap64 (x8 + 1)) x275000 x275001) else (none)) else (none)) else (if x1 = true then (if 6 < (x7.length : Int) then ((some (x7.set (6 : Int).toNat (((rd x7 6) + 128) % 256) : List Int)).bind fun y280 => (if x2 = true then (some (strOfNums (y280.set (6 : Int).toNat (((rd y280 6) + 1) % 256)))) else (some (strOfNums y280)))) else (none)) else (if x2 = true then (if 6 < (x7.length : Int) then (some (strOfNums (x7.set (6 : Int).toNat (((rd x7 6) + 1) % 256)))) else (none)) else (some (strOfNums x7))))
def squelchref04_Put.f (k : Nat) (a0_0 : ByteArray) (a0_1 : Int) (a1 : Bool) (a2 : Bool) : Option (ByteArray) := squelchref04_Put.l0 k a1 a2 (([64, 64, 64, 64, 64, 64, (wrap64 (96 + (wrap64 (2 * a0_1)))) % 256] : List Int)) 0 a0_0 a0_1
set_option maxHeartbeats 8000000 in
set_option maxRecDepth 100000 in
theorem squelchref04_Put.calls (k : Nat) (a0_0 : ByteArray) (a0_1 : Int) (a1 : Bool) (a2 : Bool) (r : ByteArray) (w : World) (h : squelchref04_Put.f k a0_0 a0_1 a1 a2 = some r) :
  Calls Tryd.prog 53 #[.agg #[.string a0_0, .int .i64 a0_1], .bool a1, .bool a2] w fun e w' => e = .returned (.string r) ∧ Below w.heap.size w w' := by
 have hu23 := Tryd.underlying23
 have HB := Aside0.mk (Below.refl w.heap.size w)
 have H : (squelchref04_Put.l0 k a1 a2 (([64, 64, 64, 64, 64, 64, (wrap64 (96 + (wrap64 (2 * a0_1)))) % 256] : List Int)) 0 a0_0 a0_1) = some r := h
 clear h
 obtain ⟨y275, hy275⟩ : ∃ y_ : List Int, y_ = (([64, 64, 64, 64, 64, 64, (wrap64 (96 + (wrap64 (2 * a0_1)))) % 256] : List Int)) := ⟨_, rfl⟩
 replace H : (squelchref04_Put.l0 k a1 a2 y275 0 a0_0 a0_1) = some r := by first | (rw [hy275]; with_reducible exact H) | (have H2_ := (Option.bind_some _ _).symm.trans H; rw [hy275]; with_reducible exact H2_) | (have H2_ := (Option.bind_some _ _).symm.trans H; with_reducible exact H2_) | with_reducible exact H | (rw [hy275]; exact H) | exact H
 have Ny275 := Aside0.mk hy275
 clear hy275
 have H' := Aside0.mk H
 clear H
 go_enter Tryd.func53, Tryd.ntmps53
 go_wp2_with (first | ((with_reducible refine gate_dst (N := 3) rfl ?_); refine box_event ?hg (N := 3) ?hd (cs := #[.string a0_0, .int .i64 a0_1]) (t := 23) ?hr ?_; (case hd => rfl); (case hg => rfl); (case hr => first | (go_simp; done) | (go_simp; rfl)); intro gb274 hg w4 hbox hb; have n0_ := Aside0.mk (below_step (by repeat (first | (with_reducible first | exact HB.out | apply below_alloc | apply pw_below_drewN | apply below_drew1) | exact HB.out)) hb); have n1_ := Aside0.mk (hbox); have n2_ := Aside0.mk ((by rw [hg]; exact (below_size (by repeat (first | (with_reducible first | exact HB.out | apply below_alloc | apply pw_below_drewN | apply below_drew1) | exact HB.out))) : w.heap.size ≤ gb274)); have n3_ := Aside0.mk ((by rw [hg]; exact (below_size (by repeat (first | (with_reducible first | exact HB.out | apply below_alloc | apply pw_below_drewN | apply below_drew1) | exact HB.out))) : w.heap.size ≤ gb274)); clear HB; have HB := n0_; have BK274 := n1_; have GW274 := n2_; have GE274 := n3_; clear n0_ n1_ n2_ n3_; clear hb hbox hg; have hcz5_0 : w4.cell? ⟨gb274, 0, none⟩ = some (.string a0_0) := (blk_cell BK274.out 0).trans rfl; have hcz5_1 : w4.cell? ⟨gb274, 1, none⟩ = some (.int .i64 a0_1) := (blk_cell BK274.out 1).trans rfl; have hfz5_0 := blk_frozen BK274.out 0; have hfz5_1 := blk_frozen BK274.out 1) | ((with_reducible refine gate_dst (N := 14) rfl ?_); refine Kd.R_lit (Kd.int .u8) _ 5 ?hg (N := 14) ?hd (xs := ([64, 64, 64, 64, 64, 64, (wrap64 (96 + (wrap64 (2 * a0_1)))) % 256] : List Int)) (inner := [.int .u8 64, .int .u8 64, .int .u8 64, .int .u8 64, .int .u8 64, .int .u8 64, .int .u8 ((wrap64 (96 + (wrap64 (2 * a0_1)))) % 256)]) (ok := fun _ => True) (okp := fun _ => True) ?hr ?hp (fun _ hk => hk) trivial (Below.refl _ _) (Nat.le_refl _) (by simp) ?_; (case hd => rfl); (case hg => rfl); (case hr => first | (go_simp; done) | (go_simp; rfl)); (case hp => exact (Reps.one (show Kd.M (Kd.int .u8) _ _ _ 64 [.int .u8 64] from rfl) (Reps.one (show Kd.M (Kd.int .u8) _ _ _ 64 [.int .u8 64] from rfl) (Reps.one (show Kd.M (Kd.int .u8) _ _ _ 64 [.int .u8 64] from rfl) (Reps.one (show Kd.M (Kd.int .u8) _ _ _ 64 [.int .u8 64] from rfl) (Reps.one (show Kd.M (Kd.int .u8) _ _ _ 64 [.int .u8 64] from rfl) (Reps.one (show Kd.M (Kd.int .u8) _ _ _ 64 [.int .u8 64] from rfl) (Reps.one (show Kd.M (Kd.int .u8) _ _ _ ((wrap64 (96 + (wrap64 (2 * a0_1)))) % 256) [.int .u8 ((wrap64 (96 + (wrap64 (2 * a0_1)))) % 256)] from rfl) (Reps.none _ _))))))))); intro v276 w6 ho7 hb hg_ hnew_; clear hg_ hnew_; (first | rw [← Ny275.out] at ho7 | (simp only [Int.reduceToNat] at ho7; rw [← Ny275.out] at ho7)); have n0_ := Aside0.mk (Kd.R_lower ho7 (below_size (by repeat (first | (with_reducible first | exact HB.out | apply below_alloc | apply pw_below_drewN | apply below_drew1 | refine below_set ?_ GE274.out) | exact HB.out)))); have n1_ := Aside0.mk (blk_below (g := gb274) (o := .cells #[.string a0_0, .int .i64 a0_1] 23 (0, 0)) (by (with_reducible repeat (first | refine blk_drewN ?_ _ | refine blk_drew ?_ | refine blk_alloc ?_ _)); exact BK274.out) hb); have n2_ := Aside0.mk (below_step (by repeat (first | (with_reducible first | exact HB.out | apply below_alloc | apply pw_below_drewN | apply below_drew1 | refine below_set ?_ GE274.out) | exact HB.out)) hb); clear BK274; clear HB; have HO277 := n0_; have BK274 := n1_; have HB := n2_; clear n0_ n1_ n2_; clear hb ho7))
 go_loopg [8] k (fun kq v8 w' => ∃ (x7_1 : List Int) (x8_1 : Int), v8 = .int .i64 x8_1 ∧ Aside0 (squelchref04_Put.l0 kq a1 a2 x7_1 x8_1 a0_0 a0_1 = some r) ∧ Aside0 (kq ≤ k) ∧ Aside0 (Kd.R (Kd.int .u8) 5 w' w.heap.size (fun _ => True) v276 x7_1) ∧ Aside0 (w'.heap[gb274]? = some (.cells #[.string a0_0, .int .i64 a0_1] 23 (0, 0))) ∧ Aside0 (Below w.heap.size w w'))
 case atStart => exact ⟨(y275), (0), (by first | rfl | (simp; done) | (simp [*]; done) | (simp; exact (fun l : List UInt8 => (by cases l <;> rfl : l.isEmpty = !(l != []))) _)), H', ⟨Nat.le_refl _⟩, ⟨by (with_reducible repeat (first | apply Kd.R_alloc | apply Kd.R_drewN | apply Kd.R_drew)); exact HO277.out⟩, ⟨by (with_reducible repeat (first | refine blk_drewN ?_ _ | refine blk_drew ?_ | refine blk_alloc ?_ _)); exact BK274.out⟩, ⟨by repeat (first | (with_reducible first | exact HB.out | apply below_alloc | apply pw_below_drewN | apply below_drew1 | refine below_set ?_ GE274.out) | exact HB.out)⟩⟩
 case round =>
  clear H'
  try clear p2
  try clear c5
  try clear p6
  try clear hcz5_0
  try clear hcz5_1
  try clear hfz5_0
  try clear hfz5_1
  obtain ⟨x7_1, x8_1, rfl, HA, HK1, HO_7, BK274, HB⟩ := hrel
  cases gk with
  | zero => exact absurd HA.out (by simp [squelchref04_Put.l0])
  | succ k1 =>
   have H := HA.out
   clear HA
   simp only [squelchref04_Put.l0] at H
   by_cases c8 : x8_1 < (a0_0.size : Int)
   ·rw [if_pos c8] at H
    have c8b0 : decide (x8_1 < (a0_0.size : Int)) = true := decide_eq_true c8
    clear c8
    by_cases c9 : 0 ≤ x8_1
    ·rw [if_pos c9] at H
     have c9b0 : decide (0 ≤ x8_1) = true := decide_eq_true c9
     clear c9
     by_cases c11 : x8_1 < (x7_1.length : Int)
     ·rw [if_pos c11] at H
      have c11b0 : decide (x8_1 < (x7_1.length : Int)) = true := decide_eq_true c11
      clear c11
      obtain ⟨y278, hy278⟩ : ∃ y_ : List Int, y_ = (x7_1.set (x8_1 : Int).toNat ((2 * (bt a0_0 x8_1)) % 256)) := ⟨_, rfl⟩
      replace H : (squelchref04_Put.l0 k1 a1 a2 y278 (wrap64 (x8_1 + 1)) a0_0 a0_1) = some r := by first | (rw [hy278]; with_reducible exact H) | (have H2_ := (Option.bind_some _ _).symm.trans H; rw [hy278]; with_reducible exact H2_) | (have H2_ := (Option.bind_some _ _).symm.trans H; with_reducible exact H2_) | with_reducible exact H | (rw [hy278]; exact H) | exact H
      have Ny278 := Aside0.mk hy278
      clear hy278
      have H' := Aside0.mk H
      clear H
      have hcz13_0 : wr.cell? ⟨gb274, 0, none⟩ = some (.string a0_0) := (blk_cell BK274.out 0).trans rfl
      have hcz13_1 : wr.cell? ⟨gb274, 1, none⟩ = some (.int .i64 a0_1) := (blk_cell BK274.out 1).trans rfl
      have hfz13_0 := blk_frozen BK274.out 0
      have hfz13_1 := blk_frozen BK274.out 1
      have p10 : 0 ≤ (x8_1 : Int) := of_decide_eq_true (by first | (with_reducible assumption) | assumption)
      have q10 : x8_1 < (a0_0.size : Int) := of_decide_eq_true (by first | (with_reducible assumption) | assumption)
      have hx10 := bt_at a0_0 x8_1
      replace p10 := eq_true p10
      replace q10 := eq_true q10
      have p12 : 0 ≤ (x8_1 : Int) := of_decide_eq_true (by first | (with_reducible assumption) | assumption)
      have q12 : (x8_1 : Int) < ((x7_1.length : Int) : Int) := of_decide_eq_true (by first | (with_reducible assumption) | assumption)
      obtain ⟨go12, co12, eo12, gb12, gl12, cl12, HG12⟩ := Kd.R_form HO_7.out (by omega)
      (first | cases eo12 | (injection eo12 with ea_ en_ ec_; (first | subst ea_ | (injection ea_ with ea_; subst ea_)); subst ec_; clear en_))
      have GB12 := Aside0.mk gb12
      have GG12 := Aside0.mk HG12
      clear gb12 gl12 HG12
      obtain ⟨hx12_0, hf12_0⟩ := Kd.R_celln 0 HO_7.out (x8_1 : Int) p12 q12
      replace p12 := eq_true p12
      replace q12 := eq_true q12
      have HP14 := Kd.R_putg HO_7.out (x8_1 : Int) ((2 * (bt a0_0 x8_1)) % 256)
      go_wp2_with (first | ((with_reducible refine gate_store (t := 5) (p := 29) rfl ?_); refine store_event (t := 5) (p := 29) (v := ?vo_w15) (w1 := (wr.setCell ⟨go12, (x8_1 : Int).toNat, none⟩ (.int .u8 ((2 * (bt a0_0 x8_1)) % 256)))) ?hg ?ho ?hn ?hr ?_; (case ho => rfl); (case hg => rfl); (case hn => rfl); (case hr => first | (go_simp; done) | (go_simp; rfl)); intro w15 hw; have hg : wr.grownBy w15 (some go12) := (by rw [hw]; exact HP14.2); have hp_ : Kd.R (Kd.int .u8) 5 w15 w.heap.size (fun _ => True) (.slice (some ⟨go12, 0, none⟩) x7_1.length co12) y278 := (by rw [hw, Ny278.out]; exact HP14.1); clear HP14; have n0_ := Aside0.mk (hp_); have n1_ := Aside0.mk (blk_grown (g := gb274) (o := .cells #[.string a0_0, .int .i64 a0_1] 23 (0, 0)) (by (with_reducible repeat (first | refine blk_drewN ?_ _ | refine blk_drew ?_ | refine blk_alloc ?_ _)); exact BK274.out) hg (Kd.R_ne HO_7.out BK274.out (by decide))); have n2_ := Aside0.mk ((by rw [hw]; exact below_set (HB.out) GB12.out : Below w.heap.size w w15)); clear HO_7; clear BK274; clear HB; have HO_7 := n0_; have BK274 := n1_; have HB := n2_; clear n0_ n1_ n2_; clear hg hw hp_))
      go_roundg k1
      case measure => have := HK1.out; omega
      case rel => exact ⟨(y278), (wrap64 (x8_1 + 1)), (by first | rfl | (simp; done) | (simp [*]; done) | (simp; exact (fun l : List UInt8 => (by cases l <;> rfl : l.isEmpty = !(l != []))) _)), H', ⟨by have := HK1.out; omega⟩, ⟨by (with_reducible repeat (first | apply Kd.R_alloc | apply Kd.R_drewN | apply Kd.R_drew)); exact HO_7.out⟩, ⟨by (with_reducible repeat (first | refine blk_drewN ?_ _ | refine blk_drew ?_ | refine blk_alloc ?_ _)); exact BK274.out⟩, ⟨by repeat (first | (with_reducible first | exact HB.out | apply below_alloc | apply pw_below_drewN | apply below_drew1 | refine below_set ?_ GE274.out) | exact HB.out)⟩⟩
     ·rw [if_neg c11] at H
      exact absurd H (by simp)
    ·rw [if_neg c9] at H
     exact absurd H (by simp)
   ·rw [if_neg c8] at H
    have c8b0 : decide (x8_1 < (a0_0.size : Int)) = false := decide_eq_false c8
    clear c8
    by_cases c16 : a1 = true
    ·subst c16
     have H1 : (if 6 < (x7_1.length : Int) then ((some (x7_1.set (6 : Int).toNat (((rd x7_1 6) + 128) % 256) : List Int)).bind fun y280 => (if a2 = true then (some (strOfNums (y280.set (6 : Int).toNat (((rd y280 6) + 1) % 256)))) else (some (strOfNums y280)))) else (none)) = some r := by rw [if_pos rfl] at H; exact H
     clear H
     have H := H1
     clear H1
     by_cases c17 : 6 < (x7_1.length : Int)
     ·rw [if_pos c17] at H
      have c17b0 : decide (6 < (x7_1.length : Int)) = true := decide_eq_true c17
      have c17b1 : decide (6 < x7_1.length) = true := decide_eq_true (by omega)
      clear c17
      obtain ⟨y280, hy280⟩ : ∃ y_ : List Int, y_ = (x7_1.set (6 : Int).toNat (((rd x7_1 6) + 128) % 256)) := ⟨_, rfl⟩
      replace H : (if a2 = true then (some (strOfNums (y280.set (6 : Int).toNat (((rd y280 6) + 1) % 256)))) else (some (strOfNums y280))) = some r := by first | (rw [hy280]; with_reducible exact H) | (have H2_ := (Option.bind_some _ _).symm.trans H; rw [hy280]; with_reducible exact H2_) | (have H2_ := (Option.bind_some _ _).symm.trans H; with_reducible exact H2_) | with_reducible exact H | (rw [hy280]; exact H) | exact H
      have Ny280 := Aside0.mk hy280
      clear hy280
      by_cases c19 : a2 = true
      ·subst c19
       have H1 : (some (strOfNums (y280.set (6 : Int).toNat (((rd y280 6) + 1) % 256)))) = some r := by rw [if_pos rfl] at H; exact H
       clear H
       have H := H1
       clear H1
       obtain ⟨y282, hy282⟩ : ∃ y_ : List Int, y_ = (y280.set (6 : Int).toNat (((rd y280 6) + 1) % 256)) := ⟨_, rfl⟩
       replace H : (some (strOfNums y282)) = some r := by first | (rw [hy282]; with_reducible exact H) | (have H2_ := (Option.bind_some _ _).symm.trans H; rw [hy282]; with_reducible exact H2_) | (have H2_ := (Option.bind_some _ _).symm.trans H; with_reducible exact H2_) | with_reducible exact H | (rw [hy282]; exact H) | exact H
       have Ny282 := Aside0.mk hy282
       clear hy282
       obtain rfl := Option.some.inj H
       have hcz21_0 : wr.cell? ⟨gb274, 0, none⟩ = some (.string a0_0) := (blk_cell BK274.out 0).trans rfl
       have hcz21_1 : wr.cell? ⟨gb274, 1, none⟩ = some (.int .i64 a0_1) := (blk_cell BK274.out 1).trans rfl
       have hfz21_0 := blk_frozen BK274.out 0
       have hfz21_1 := blk_frozen BK274.out 1
       obtain ⟨Ao22, co22, eo22⟩ := Kd.R_slice HO_7.out
       subst eo22
       have p279 : 0 ≤ (6 : Int) := (by omega)
       have q279 : 6 < (x7_1.length : Int) := of_decide_eq_true (by first | (with_reducible assumption) | assumption)
       obtain ⟨ad279, e279, hx279_0⟩ := Kd.at_int (Kd.R_reads' HO_7.out).2.2 6 p279 q279
       cases e279
       (try simp only [show (6 : Int).toNat = 6 from rfl, Nat.reduceMul, Nat.reduceEqDiff, Go.Addr.add, ↓reduceIte] at hx279_0)
       have qi279 : (6 < x7_1.length) = True := eq_true (by omega)
       (try rw [show ((6 : Int)).toNat = 6 from rfl] at hx279_0)
       replace p279 := eq_true p279
       replace q279 := eq_true q279
       have p18 : 0 ≤ (6 : Int) := (by omega)
       have q18 : (6 : Int) < ((x7_1.length : Int) : Int) := of_decide_eq_true (by first | (with_reducible assumption) | assumption)
       have qi18 : (6 < x7_1.length) = True := eq_true (by omega)
       obtain ⟨go18, co18, eo18, gb18, gl18, cl18, HG18⟩ := Kd.R_form HO_7.out (by omega)
       (first | cases eo18 | (injection eo18 with ea_ en_ ec_; (first | subst ea_ | (injection ea_ with ea_; subst ea_)); subst ec_; clear en_))
       have GB18 := Aside0.mk gb18
       have GG18 := Aside0.mk HG18
       clear gb18 gl18 HG18
       (first | simp only [add_plain] at hx279_0 | skip)
       obtain ⟨hx18_0, hf18_0⟩ := Kd.R_celln 0 HO_7.out (6 : Int) p18 q18
       (try rw [show ((6 : Int)).toNat = 6 from rfl] at hx18_0)
       (try simp only [Nat.reduceMul, Nat.zero_mul, Nat.zero_add, Nat.reduceAdd] at hx18_0)
       (try rw [show ((6 : Int)).toNat = 6 from rfl] at hf18_0)
       (try simp only [Nat.reduceMul, Nat.zero_mul, Nat.zero_add, Nat.reduceAdd] at hf18_0)
       replace p18 := eq_true p18
       replace q18 := eq_true q18
       have HP23 := Kd.R_putg HO_7.out (6 : Int) (((rd x7_1 6) + 128) % 256)
       go_wp2_with (first | ((with_reducible refine gate_store (t := 5) (p := 36) rfl ?_); refine store_event (t := 5) (p := 36) (v := ?vo_w24) (w1 := (wr.setCell ⟨go18, (6 : Int).toNat, none⟩ (.int .u8 (((rd x7_1 6) + 128) % 256)))) ?hg ?ho ?hn ?hr ?_; (case ho => rfl); (case hg => rfl); (case hn => rfl); (case hr => first | (go_simp; done) | (go_simp; rfl)); intro w24 hw; have hg : wr.grownBy w24 (some go18) := (by rw [hw]; exact HP23.2); have hp_ : Kd.R (Kd.int .u8) 5 w24 w.heap.size (fun _ => True) (.slice (some ⟨go18, 0, none⟩) x7_1.length co22) y280 := (by rw [hw, Ny280.out]; exact HP23.1); clear HP23; have n0_ := Aside0.mk (hp_); have n1_ := Aside0.mk (blk_grown (g := gb274) (o := .cells #[.string a0_0, .int .i64 a0_1] 23 (0, 0)) (by (with_reducible repeat (first | refine blk_drewN ?_ _ | refine blk_drew ?_ | refine blk_alloc ?_ _)); exact BK274.out) hg (Kd.R_ne HO_7.out BK274.out (by decide))); have n2_ := Aside0.mk ((by rw [hw]; exact below_set (HB.out) GB18.out : Below w.heap.size w w24)); clear HO_7; clear BK274; clear HB; have HO_7 := n0_; have BK274 := n1_; have HB := n2_; clear n0_ n1_ n2_; clear hg hw hp_; have p281 : 0 ≤ (6 : Int) := (by omega); have q281 : 6 < (y280.length : Int) := (by have h_ : (6 : Int) < ((x7_1.length : Int) : Int) := of_decide_eq_true (by first | (with_reducible assumption) | assumption); first | (have e_ := (Kd.R_reads' HO_7.out).1; omega) | simpa only [Ny280.out, List.length_set] using h_); have ql281 : ((6 : Int) < ((x7_1.length : Int) : Int)) = True := eq_true (of_decide_eq_true (by first | (with_reducible assumption) | assumption)); (try have qn281 : (6 < x7_1.length) = True := eq_true (by have h_ : (6 : Int) < ((x7_1.length : Int) : Int) := of_decide_eq_true (by first | (with_reducible assumption) | assumption); omega)); obtain ⟨ad281, e281, hx281_0⟩ := Kd.at_int (Kd.R_reads' HO_7.out).2.2 6 p281 q281; obtain rfl : (⟨go18, 0, none⟩ : Addr) = ad281 := (by injection e281); (first | simp only [add_plain] at hx281_0 | simp only [add_at] at hx281_0 | simp only [Addr.add, Nat.zero_add] at hx281_0 | skip); have qi281 : (6 < y280.length) = True := eq_true (by omega); (try rw [show ((6 : Int)).toNat = 6 from rfl] at hx281_0); replace p281 := eq_true p281; replace q281 := eq_true q281; have p20 : 0 ≤ (6 : Int) := (by omega); have q20 : (6 : Int) < ((x7_1.length : Int) : Int) := of_decide_eq_true (by first | (with_reducible assumption) | assumption); have qi20 : (6 < x7_1.length) = True := eq_true (by omega); obtain ⟨hx20_0, hf20_0⟩ := Kd.R_celln 0 HO_7.out (6 : Int) p20 q20; (try rw [show ((6 : Int)).toNat = 6 from rfl] at hx20_0); (try simp only [Nat.reduceMul, Nat.zero_mul, Nat.zero_add, Nat.reduceAdd] at hx20_0); (try rw [show ((6 : Int)).toNat = 6 from rfl] at hf20_0); (try simp only [Nat.reduceMul, Nat.zero_mul, Nat.zero_add, Nat.reduceAdd] at hf20_0); replace p20 := eq_true p20; replace q20 := eq_true q20; obtain ⟨hy25_, hz25_⟩ := Kd.R_celln 0 HO_7.out (6 : Int) (by omega) (of_decide_eq_true (by first | (with_reducible assumption) | assumption)); (try simp only [Int.reduceToNat, Int.toNat_zero, Int.toNat_ofNat, Nat.reduceMul, Nat.zero_mul, Nat.zero_add] at hy25_ hz25_); (try rw [show ((6 : Int)).toNat = 6 from rfl] at hy25_); (try rw [show ((6 : Int)).toNat = 6 from rfl] at hz25_); have HP25 := Kd.R_putg HO_7.out (6 : Int) (((rd y280 6) + 1) % 256)) | ((with_reducible refine gate_store (t := 5) (p := 42) rfl ?_); refine store_event (t := 5) (p := 42) (v := ?vo_w26) (w1 := (w24.setCell ⟨go18, (6 : Int).toNat, none⟩ (.int .u8 (((rd y280 6) + 1) % 256)))) ?hg ?ho ?hn ?hr ?_; (case ho => rfl); (case hg => rfl); (case hn => rfl); (case hr => first | (go_simp; done) | (go_simp; rfl)); intro w26 hw; have hg : w24.grownBy w26 (some go18) := (by rw [hw]; exact HP25.2); have hp_ : Kd.R (Kd.int .u8) 5 w26 w.heap.size (fun _ => True) (.slice (some ⟨go18, 0, none⟩) x7_1.length co22) y282 := (by rw [hw, Ny282.out]; exact HP25.1); clear HP25; have n0_ := Aside0.mk (hp_); have n1_ := Aside0.mk (blk_grown (g := gb274) (o := .cells #[.string a0_0, .int .i64 a0_1] 23 (0, 0)) (by (with_reducible repeat (first | refine blk_drewN ?_ _ | refine blk_drew ?_ | refine blk_alloc ?_ _)); exact BK274.out) hg (Kd.R_ne HO_7.out BK274.out (by decide))); have n2_ := Aside0.mk ((by rw [hw]; exact below_set (HB.out) GB18.out : Below w.heap.size w w26)); clear HO_7; clear BK274; clear HB; have HO_7 := n0_; have BK274 := n1_; have HB := n2_; clear n0_ n1_ n2_; clear hg hw hp_; have hcv27 := own_string (P := Tryd.prog) Tryd.underlying104 Tryd.underlying5 Tryd.underlying9 (Kd.own_of_R HO_7.out)))
       go_ret
       exact ⟨by first | rfl | (simp [errW_none, errW_some] <;> rfl) | (simp [*, errW_none, errW_some] <;> rfl), by repeat (first | (with_reducible first | exact HB.out | apply below_alloc | apply pw_below_drewN | apply below_drew1 | refine below_set ?_ GE274.out) | exact HB.out)⟩
      ·replace c19 := Bool.eq_false_iff.mpr c19
       subst c19
       have H1 : (some (strOfNums y280)) = some r := by rw [if_neg (show ¬ (false = true) by decide)] at H; exact H
       clear H
       have H := H1
       clear H1
       obtain rfl := Option.some.inj H
       have hcz28_0 : wr.cell? ⟨gb274, 0, none⟩ = some (.string a0_0) := (blk_cell BK274.out 0).trans rfl
       have hcz28_1 : wr.cell? ⟨gb274, 1, none⟩ = some (.int .i64 a0_1) := (blk_cell BK274.out 1).trans rfl
       have hfz28_0 := blk_frozen BK274.out 0
       have hfz28_1 := blk_frozen BK274.out 1
       obtain ⟨Ao29, co29, eo29⟩ := Kd.R_slice HO_7.out
       subst eo29
       have p279 : 0 ≤ (6 : Int) := (by omega)
       have q279 : 6 < (x7_1.length : Int) := of_decide_eq_true (by first | (with_reducible assumption) | assumption)
       obtain ⟨ad279, e279, hx279_0⟩ := Kd.at_int (Kd.R_reads' HO_7.out).2.2 6 p279 q279
       cases e279
       (try simp only [show (6 : Int).toNat = 6 from rfl, Nat.reduceMul, Nat.reduceEqDiff, Go.Addr.add, ↓reduceIte] at hx279_0)
       have qi279 : (6 < x7_1.length) = True := eq_true (by omega)
       (try rw [show ((6 : Int)).toNat = 6 from rfl] at hx279_0)
       replace p279 := eq_true p279
       replace q279 := eq_true q279
       have p18 : 0 ≤ (6 : Int) := (by omega)
       have q18 : (6 : Int) < ((x7_1.length : Int) : Int) := of_decide_eq_true (by first | (with_reducible assumption) | assumption)
       have qi18 : (6 < x7_1.length) = True := eq_true (by omega)
       obtain ⟨go18, co18, eo18, gb18, gl18, cl18, HG18⟩ := Kd.R_form HO_7.out (by omega)
       (first | cases eo18 | (injection eo18 with ea_ en_ ec_; (first | subst ea_ | (injection ea_ with ea_; subst ea_)); subst ec_; clear en_))
       have GB18 := Aside0.mk gb18
       have GG18 := Aside0.mk HG18
       clear gb18 gl18 HG18
       (first | simp only [add_plain] at hx279_0 | skip)
       obtain ⟨hx18_0, hf18_0⟩ := Kd.R_celln 0 HO_7.out (6 : Int) p18 q18
       (try rw [show ((6 : Int)).toNat = 6 from rfl] at hx18_0)
       (try simp only [Nat.reduceMul, Nat.zero_mul, Nat.zero_add, Nat.reduceAdd] at hx18_0)
       (try rw [show ((6 : Int)).toNat = 6 from rfl] at hf18_0)
       (try simp only [Nat.reduceMul, Nat.zero_mul, Nat.zero_add, Nat.reduceAdd] at hf18_0)
       replace p18 := eq_true p18
       replace q18 := eq_true q18
       have HP30 := Kd.R_putg HO_7.out (6 : Int) (((rd x7_1 6) + 128) % 256)
       go_wp2_with (first | ((with_reducible refine gate_store (t := 5) (p := 36) rfl ?_); refine store_event (t := 5) (p := 36) (v := ?vo_w31) (w1 := (wr.setCell ⟨go18, (6 : Int).toNat, none⟩ (.int .u8 (((rd x7_1 6) + 128) % 256)))) ?hg ?ho ?hn ?hr ?_; (case ho => rfl); (case hg => rfl); (case hn => rfl); (case hr => first | (go_simp; done) | (go_simp; rfl)); intro w31 hw; have hg : wr.grownBy w31 (some go18) := (by rw [hw]; exact HP30.2); have hp_ : Kd.R (Kd.int .u8) 5 w31 w.heap.size (fun _ => True) (.slice (some ⟨go18, 0, none⟩) x7_1.length co29) y280 := (by rw [hw, Ny280.out]; exact HP30.1); clear HP30; have n0_ := Aside0.mk (hp_); have n1_ := Aside0.mk (blk_grown (g := gb274) (o := .cells #[.string a0_0, .int .i64 a0_1] 23 (0, 0)) (by (with_reducible repeat (first | refine blk_drewN ?_ _ | refine blk_drew ?_ | refine blk_alloc ?_ _)); exact BK274.out) hg (Kd.R_ne HO_7.out BK274.out (by decide))); have n2_ := Aside0.mk ((by rw [hw]; exact below_set (HB.out) GB18.out : Below w.heap.size w w31)); clear HO_7; clear BK274; clear HB; have HO_7 := n0_; have BK274 := n1_; have HB := n2_; clear n0_ n1_ n2_; clear hg hw hp_; have hcv32 := own_string (P := Tryd.prog) Tryd.underlying104 Tryd.underlying5 Tryd.underlying9 (Kd.own_of_R HO_7.out)))
       go_ret
       exact ⟨by first | rfl | (simp [errW_none, errW_some] <;> rfl) | (simp [*, errW_none, errW_some] <;> rfl), by repeat (first | (with_reducible first | exact HB.out | apply below_alloc | apply pw_below_drewN | apply below_drew1 | refine below_set ?_ GE274.out) | exact HB.out)⟩
     ·rw [if_neg c17] at H
      exact absurd H (by simp)
    ·replace c16 := Bool.eq_false_iff.mpr c16
     subst c16
     have H1 : (if a2 = true then (if 6 < (x7_1.length : Int) then (some (strOfNums (x7_1.set (6 : Int).toNat (((rd x7_1 6) + 1) % 256)))) else (none)) else (some (strOfNums x7_1))) = some r := by rw [if_neg (show ¬ (false = true) by decide)] at H; exact H
     clear H
     have H := H1
     clear H1
     by_cases c33 : a2 = true
     ·subst c33
      have H1 : (if 6 < (x7_1.length : Int) then (some (strOfNums (x7_1.set (6 : Int).toNat (((rd x7_1 6) + 1) % 256)))) else (none)) = some r := by rw [if_pos rfl] at H; exact H
      clear H
      have H := H1
      clear H1
      by_cases c34 : 6 < (x7_1.length : Int)
      ·rw [if_pos c34] at H
       have c34b0 : decide (6 < (x7_1.length : Int)) = true := decide_eq_true c34
       have c34b1 : decide (6 < x7_1.length) = true := decide_eq_true (by omega)
       clear c34
       obtain ⟨y284, hy284⟩ : ∃ y_ : List Int, y_ = (x7_1.set (6 : Int).toNat (((rd x7_1 6) + 1) % 256)) := ⟨_, rfl⟩
       replace H : (some (strOfNums y284)) = some r := by first | (rw [hy284]; with_reducible exact H) | (have H2_ := (Option.bind_some _ _).symm.trans H; rw [hy284]; with_reducible exact H2_) | (have H2_ := (Option.bind_some _ _).symm.trans H; with_reducible exact H2_) | with_reducible exact H | (rw [hy284]; exact H) | exact H
       have Ny284 := Aside0.mk hy284
       clear hy284
       obtain rfl := Option.some.inj H
       have hcz36_0 : wr.cell? ⟨gb274, 0, none⟩ = some (.string a0_0) := (blk_cell BK274.out 0).trans rfl
       have hcz36_1 : wr.cell? ⟨gb274, 1, none⟩ = some (.int .i64 a0_1) := (blk_cell BK274.out 1).trans rfl
       have hfz36_0 := blk_frozen BK274.out 0
       have hfz36_1 := blk_frozen BK274.out 1
       obtain ⟨Ao37, co37, eo37⟩ := Kd.R_slice HO_7.out
       subst eo37
       have p283 : 0 ≤ (6 : Int) := (by omega)
       have q283 : 6 < (x7_1.length : Int) := of_decide_eq_true (by first | (with_reducible assumption) | assumption)
       obtain ⟨ad283, e283, hx283_0⟩ := Kd.at_int (Kd.R_reads' HO_7.out).2.2 6 p283 q283
       cases e283
       (try simp only [show (6 : Int).toNat = 6 from rfl, Nat.reduceMul, Nat.reduceEqDiff, Go.Addr.add, ↓reduceIte] at hx283_0)
       have qi283 : (6 < x7_1.length) = True := eq_true (by omega)
       (try rw [show ((6 : Int)).toNat = 6 from rfl] at hx283_0)
       replace p283 := eq_true p283
       replace q283 := eq_true q283
       have p35 : 0 ≤ (6 : Int) := (by omega)
       have q35 : (6 : Int) < ((x7_1.length : Int) : Int) := of_decide_eq_true (by first | (with_reducible assumption) | assumption)
       have qi35 : (6 < x7_1.length) = True := eq_true (by omega)
       obtain ⟨go35, co35, eo35, gb35, gl35, cl35, HG35⟩ := Kd.R_form HO_7.out (by omega)
       (first | cases eo35 | (injection eo35 with ea_ en_ ec_; (first | subst ea_ | (injection ea_ with ea_; subst ea_)); subst ec_; clear en_))
       have GB35 := Aside0.mk gb35
       have GG35 := Aside0.mk HG35
       clear gb35 gl35 HG35
       (first | simp only [add_plain] at hx283_0 | skip)
       obtain ⟨hx35_0, hf35_0⟩ := Kd.R_celln 0 HO_7.out (6 : Int) p35 q35
       (try rw [show ((6 : Int)).toNat = 6 from rfl] at hx35_0)
       (try simp only [Nat.reduceMul, Nat.zero_mul, Nat.zero_add, Nat.reduceAdd] at hx35_0)
       (try rw [show ((6 : Int)).toNat = 6 from rfl] at hf35_0)
       (try simp only [Nat.reduceMul, Nat.zero_mul, Nat.zero_add, Nat.reduceAdd] at hf35_0)
       replace p35 := eq_true p35
       replace q35 := eq_true q35
       have HP38 := Kd.R_putg HO_7.out (6 : Int) (((rd x7_1 6) + 1) % 256)
       go_wp2_with (first | ((with_reducible refine gate_store (t := 5) (p := 42) rfl ?_); refine store_event (t := 5) (p := 42) (v := ?vo_w39) (w1 := (wr.setCell ⟨go35, (6 : Int).toNat, none⟩ (.int .u8 (((rd x7_1 6) + 1) % 256)))) ?hg ?ho ?hn ?hr ?_; (case ho => rfl); (case hg => rfl); (case hn => rfl); (case hr => first | (go_simp; done) | (go_simp; rfl)); intro w39 hw; have hg : wr.grownBy w39 (some go35) := (by rw [hw]; exact HP38.2); have hp_ : Kd.R (Kd.int .u8) 5 w39 w.heap.size (fun _ => True) (.slice (some ⟨go35, 0, none⟩) x7_1.length co37) y284 := (by rw [hw, Ny284.out]; exact HP38.1); clear HP38; have n0_ := Aside0.mk (hp_); have n1_ := Aside0.mk (blk_grown (g := gb274) (o := .cells #[.string a0_0, .int .i64 a0_1] 23 (0, 0)) (by (with_reducible repeat (first | refine blk_drewN ?_ _ | refine blk_drew ?_ | refine blk_alloc ?_ _)); exact BK274.out) hg (Kd.R_ne HO_7.out BK274.out (by decide))); have n2_ := Aside0.mk ((by rw [hw]; exact below_set (HB.out) GB35.out : Below w.heap.size w w39)); clear HO_7; clear BK274; clear HB; have HO_7 := n0_; have BK274 := n1_; have HB := n2_; clear n0_ n1_ n2_; clear hg hw hp_; have hcv40 := own_string (P := Tryd.prog) Tryd.underlying104 Tryd.underlying5 Tryd.underlying9 (Kd.own_of_R HO_7.out)))
       go_ret
       exact ⟨by first | rfl | (simp [errW_none, errW_some] <;> rfl) | (simp [*, errW_none, errW_some] <;> rfl), by repeat (first | (with_reducible first | exact HB.out | apply below_alloc | apply pw_below_drewN | apply below_drew1 | refine below_set ?_ GE274.out) | exact HB.out)⟩
      ·rw [if_neg c34] at H
       exact absurd H (by simp)
     ·replace c33 := Bool.eq_false_iff.mpr c33
      subst c33
      have H1 : (some (strOfNums x7_1)) = some r := by rw [if_neg (show ¬ (false = true) by decide)] at H; exact H
      clear H
      have H := H1
      clear H1
      obtain rfl := Option.some.inj H
      have hcz41_0 : wr.cell? ⟨gb274, 0, none⟩ = some (.string a0_0) := (blk_cell BK274.out 0).trans rfl
      have hcz41_1 : wr.cell? ⟨gb274, 1, none⟩ = some (.int .i64 a0_1) := (blk_cell BK274.out 1).trans rfl
      have hfz41_0 := blk_frozen BK274.out 0
      have hfz41_1 := blk_frozen BK274.out 1
      have hcv42 := own_string (P := Tryd.prog) Tryd.underlying104 Tryd.underlying5 Tryd.underlying9 (Kd.own_of_R HO_7.out)
      go_wp2
      go_ret
      exact ⟨by first | rfl | (simp [errW_none, errW_some] <;> rfl) | (simp [*, errW_none, errW_some] <;> rfl), by repeat (first | (with_reducible first | exact HB.out | apply below_alloc | apply pw_below_drewN | apply below_drew1 | refine below_set ?_ GE274.out) | exact HB.out)⟩

end Go.Proofs.YtpmieapgbdbabaaDoor.QAll
end

section
/- Walks, written by a program of this session (wip/pp): a Go function comes to what the Lean function beside it tells. -/
namespace Go.Proofs.YtpmieapgbdbabaaDoor.QAll
open Go.RowKit Go.Proofs.YtpmieapgbdbabaaDoorW.PrintWords Go.Proofs.YtpmieapgbdbabaaDoorW.PrintLast Go.Proofs.YtpmieapgbdbabaaDoorW.PrintMore
set_option linter.unusedVariables false
set_option linter.unusedSimpArgs false

def squelchref04_Get.l0 : Nat → ByteArray → Int → ByteArray → Int → Option (ByteArray × Int × Bool × Bool × Bool)
 | 0, _, _, _, _ => none
 | k + 1, x0, x7, x287000, x287001 => if x7 < 6 then (if 0 ≤ x7 then (if x7 < (x0.size : Int) then (if (bt x0 x7) = 64 then (squelchref04_Get.l0 k x0 (wrap64 (x7 + 1)) x287000 x287001) else ((some (([(Int.tdiv (bt x0 x7) 2) % 256] : List Int) : List Int)).bind fun y287 => (if x287000.size + (strOfNums y287).size ≤ 9223372036854775807 then (squelchref04_Get.l0 k x0 (wrap64 (x7 + 1)) (x287000 ++ (strOfNums y287)) x287001) else (none)))) else (none)) else (none)) else (if 6 < (x0.size : Int) then ((squelchref04_Right.f k x287000 x287001).bind fun t290 => (if t290 = true then ((squelchref04_Put.f k x287000 x287001 (decide ((bt x0 6) ≥ 128)) ((Int.tmod (bt x0 6) 2) == 1)).bind fun t291 => (if t291.toList = x0.toList then (some (x287000, x287001, decide ((bt x0 6) ≥ 128), ((Int.tmod (bt x0 6) 2) == 1), true)) else (some ((⟨#[]⟩ : ByteArray), 0, false, false, false)))) else (some ((⟨#[]⟩ : ByteArray), 0, false, false, false)))) else (none))
def squelchref04_Get.f (k : Nat) (a0 : ByteArray) : Option (ByteArray × Int × Bool × Bool × Bool) := if (a0.size : Int) = 7 then (if 6 < (a0.size : Int) then (squelchref04_Get.l0 k a0 0 (⟨#[]⟩ : ByteArray) (Int.tmod (wrap64 (Int.tdiv (wrap64 (bt a0 6)) 2)) 16)) else (none)) else (some ((⟨#[]⟩ : ByteArray), 0, false, false, false))
def squelchref04_Get.T8 : Bool × List (List Nat × List Nat) := (true, [([], []), ([0], [0]), ([], []), ([], []), ([2, 3], [2, 3]), ([4], [4]), ([5], [5]), ([6], [6]), ([1, 7], [1, 7]), ([0, 1, 2, 3, 4, 5, 6, 7, 8], []), ([9, 8, 0, 1, 2, 3, 4, 5, 6, 7, 8], [8, 9])])
def squelchref04_Get.B8 : List Nat := [0, 1, 0, 0, 12, 28, 60, 124, 255, 511, 1023]
theorem squelchref04_Get.tab8 : rtab .any (opsOf Tryd.f55 8) = squelchref04_Get.T8 := by kernel_rfl
theorem squelchref04_Get.bits8 : waitsOk squelchref04_Get.T8.2 squelchref04_Get.B8 = true := by kernel_rfl
def squelchref04_Get.T9 : Bool × List (List Nat × List Nat) := (true, [([], []), ([0], [0]), ([1], [1]), ([], []), ([3], [3]), ([4], [4]), ([5], [5]), ([2, 0, 1, 2], [2]), ([6, 7, 0, 1, 2, 3, 4, 5, 6, 7], [6])])
def squelchref04_Get.B9 : List Nat := [0, 1, 3, 0, 8, 24, 56, 7, 255]
theorem squelchref04_Get.tab9 : rtab .any (opsOf Tryd.f55 9) = squelchref04_Get.T9 := by kernel_rfl
theorem squelchref04_Get.bits9 : waitsOk squelchref04_Get.T9.2 squelchref04_Get.B9 = true := by kernel_rfl
set_option maxHeartbeats 8000000 in
set_option maxRecDepth 100000 in
theorem squelchref04_Get.calls (k : Nat) (a0 : ByteArray) (r1 : ByteArray) (r2 : Int) (r3 : Bool) (r4 : Bool) (r5 : Bool) (w : World) (h : squelchref04_Get.f k a0 = some (r1, r2, r3, r4, r5)) :
  Calls Tryd.prog 55 #[.string a0] w fun e w' => e = .returned (.tuple #[.agg #[.string r1, .int .i64 r2], .bool r3, .bool r4, .bool r5]) ∧ Below w.heap.size w w' := by
 have hu23 := Tryd.underlying23
 have HB := Aside0.mk (Below.refl w.heap.size w)
 have H : (if (a0.size : Int) = 7 then (if 6 < (a0.size : Int) then (squelchref04_Get.l0 k a0 0 (⟨#[]⟩ : ByteArray) (Int.tmod (wrap64 (Int.tdiv (wrap64 (bt a0 6)) 2)) 16)) else (none)) else (some ((⟨#[]⟩ : ByteArray), 0, false, false, false))) = some (r1, r2, r3, r4, r5) := h
 clear h
 by_cases c2 : (a0.size : Int) = 7
 ·rw [if_pos c2] at H
  have c2b0 : ((a0.size : Int) == 7) = true := beq_iff_eq.mpr c2
  have c2b1 : ((a0.size : Int) != 7) = false := bne_eq_false_iff_eq.mpr c2
  clear c2
  by_cases c3 : 6 < (a0.size : Int)
  ·rw [if_pos c3] at H
   have c3b0 : decide (6 < (a0.size : Int)) = true := decide_eq_true c3
   have c3b1 : decide (6 < a0.size) = true := decide_eq_true (by omega)
   clear c3
   have H' := Aside0.mk H
   clear H
   go_enter Tryd.func55, Tryd.ntmps55
   go_wp2_with (first | ((with_reducible refine gate_dst (N := 2) rfl ?_); refine box_event ?hg (N := 2) ?hd (cs := #[.string (⟨#[]⟩ : ByteArray), .int .i64 0]) (t := 23) ?hr ?_; (case hd => rfl); (case hg => rfl); (case hr => first | (go_simp; done) | (go_simp; rfl)); intro gb285 hg w5 hbox hb; have n0_ := Aside0.mk (below_step (by repeat (first | (with_reducible first | exact HB.out | apply below_alloc | apply pw_below_drewN | apply below_drew1) | exact HB.out)) hb); have n1_ := Aside0.mk (hbox); have n2_ := Aside0.mk ((by rw [hg]; exact (below_size (by repeat (first | (with_reducible first | exact HB.out | apply below_alloc | apply pw_below_drewN | apply below_drew1) | exact HB.out))) : w.heap.size ≤ gb285)); have n3_ := Aside0.mk ((by rw [hg]; exact (below_size (by repeat (first | (with_reducible first | exact HB.out | apply below_alloc | apply pw_below_drewN | apply below_drew1) | exact HB.out))) : w.heap.size ≤ gb285)); clear HB; have HB := n0_; have BK285 := n1_; have GW285 := n2_; have GE285 := n3_; clear n0_ n1_ n2_ n3_; clear hb hbox hg; have p4 : 0 ≤ (6 : Int) := (by omega); have q4 : 6 < a0.size := (by have : (6 : Int) < (a0.size : Int) := of_decide_eq_true (by first | (with_reducible assumption) | assumption); omega); have hx4 : ∀ h : 6 < a0.size, ((a0[6]'h).toNat : Int) = bt a0 6 := bt_at a0 6; clear p4; have qi4 : (6 < (a0.size : Int)) = True := eq_true (of_decide_eq_true (by first | (with_reducible assumption) | assumption)); replace q4 := eq_true q4) | ((with_reducible refine gate_dst (N := 6) rfl ?_); refine box_event ?hg (N := 6) ?hd (cs := #[.string (⟨#[]⟩ : ByteArray), .int .i64 0]) (t := 23) ?hr ?_; (case hd => rfl); (case hg => rfl); (case hr => first | (go_simp; done) | (go_simp; rfl)); intro gb286 hg w6 hbox hb; have n0_ := Aside0.mk (blk_below (g := gb285) (o := .cells #[.string (⟨#[]⟩ : ByteArray), .int .i64 0] 23 (0, 0)) (by (with_reducible repeat (first | refine blk_drewN ?_ _ | refine blk_drew ?_ | refine blk_alloc ?_ _)); exact BK285.out) hb); have n1_ := Aside0.mk (below_step (by repeat (first | (with_reducible first | exact HB.out | apply below_alloc | apply pw_below_drewN | apply below_drew1 | refine below_set ?_ GE285.out) | exact HB.out)) hb); have n2_ := Aside0.mk (hbox); have n3_ := Aside0.mk ((by rw [hg]; exact (below_size (by repeat (first | (with_reducible first | exact HB.out | apply below_alloc | apply pw_below_drewN | apply below_drew1 | refine below_set ?_ GE285.out) | exact HB.out))) : w.heap.size ≤ gb286)); have n4_ := Aside0.mk ((by rw [hg]; exact (below_size (by repeat (first | (with_reducible first | exact HB.out | apply below_alloc | apply pw_below_drewN | apply below_drew1 | refine below_set ?_ GE285.out) | exact HB.out))) : w.heap.size ≤ gb286)); have n5_ := Aside0.mk ((by rw [hg]; exact Nat.ne_of_lt (blk_lt (g := gb285) (o := .cells #[.string (⟨#[]⟩ : ByteArray), .int .i64 0] 23 (0, 0)) (by (with_reducible repeat (first | refine blk_drewN ?_ _ | refine blk_drew ?_ | refine blk_alloc ?_ _)); exact BK285.out)) : gb285 ≠ gb286)); have n6_ := Aside0.mk ((by rw [hg]; exact Nat.ne_of_gt (blk_lt (g := gb285) (o := .cells #[.string (⟨#[]⟩ : ByteArray), .int .i64 0] 23 (0, 0)) (by (with_reducible repeat (first | refine blk_drewN ?_ _ | refine blk_drew ?_ | refine blk_alloc ?_ _)); exact BK285.out)) : gb286 ≠ gb285)); clear BK285; clear HB; have BK285 := n0_; have HB := n1_; have BK286 := n2_; have GW286 := n3_; have GE286 := n4_; have NB285_286 := n5_; have NB286_285 := n6_; clear n0_ n1_ n2_ n3_ n4_ n5_ n6_; clear hb hbox hg; have hnb7 := NB286_285.out; have hnc7 := NB285_286.out; have hcz8_0 : w6.cell? ⟨gb286, 0, none⟩ = some (.string (⟨#[]⟩ : ByteArray)) := (blk_cell BK286.out 0).trans rfl; have hcz8_1 : w6.cell? ⟨gb286, 1, none⟩ = some (.int .i64 0) := (blk_cell BK286.out 1).trans rfl; have hfz8_0 := blk_frozen BK286.out 0; have hfz8_1 := blk_frozen BK286.out 1))
   go_loopg [7] k (fun kq v7 w' => ∃ (x7_1 : Int) (x287000_1 : ByteArray), v7 = .int .i64 x7_1 ∧ Aside0 (squelchref04_Get.l0 kq a0 x7_1 x287000_1 (Int.tmod (wrap64 (Int.tdiv (wrap64 (bt a0 6)) 2)) 16) = some (r1, r2, r3, r4, r5)) ∧ Aside0 (kq ≤ k) ∧ Aside0 (w'.heap[gb285]? = some (.cells #[.string (⟨#[]⟩ : ByteArray), .int .i64 0] 23 (0, 0))) ∧ Aside0 (w'.heap[gb286]? = some (.cells #[.string x287000_1, .int .i64 (Int.tmod (wrap64 (Int.tdiv (wrap64 (bt a0 6)) 2)) 16)] 23 (0, 0))) ∧ Aside0 (Below w.heap.size w w'))
   case atStart => exact ⟨(0), ((⟨#[]⟩ : ByteArray)), (by first | rfl | (simp; done) | (simp [*]; done) | (simp; exact (fun l : List UInt8 => (by cases l <;> rfl : l.isEmpty = !(l != []))) _)), H', ⟨Nat.le_refl _⟩, ⟨by (with_reducible repeat (first | refine blk_drewN ?_ _ | refine blk_drew ?_ | refine blk_alloc ?_ _)); refine blk_far ?_ NB285_286.out _; (with_reducible repeat (first | refine blk_drewN ?_ _ | refine blk_drew ?_ | refine blk_alloc ?_ _)); refine blk_far ?_ NB285_286.out _; (with_reducible repeat (first | refine blk_drewN ?_ _ | refine blk_drew ?_ | refine blk_alloc ?_ _)); exact BK285.out⟩, ⟨by (with_reducible repeat (first | refine blk_drewN ?_ _ | refine blk_drew ?_ | refine blk_alloc ?_ _)); refine blk_put (cs := #[.string (⟨#[]⟩ : ByteArray), .int .i64 0]) ?_ 1 _ rfl; (with_reducible repeat (first | refine blk_drewN ?_ _ | refine blk_drew ?_ | refine blk_alloc ?_ _)); refine blk_put (cs := #[.string (⟨#[]⟩ : ByteArray), .int .i64 0]) ?_ 0 _ rfl; (with_reducible repeat (first | refine blk_drewN ?_ _ | refine blk_drew ?_ | refine blk_alloc ?_ _)); exact BK286.out⟩, ⟨by repeat (first | (with_reducible first | exact HB.out | apply below_alloc | apply pw_below_drewN | apply below_drew1 | refine below_set ?_ GE285.out | refine below_set ?_ GE286.out) | exact HB.out)⟩⟩
   case round =>
    clear H'
    try clear c2
    try clear c2b0
    try clear c2b1
    try clear p2
    try clear c3
    try clear c3b0
    try clear c3b1
    try clear p4
    try clear q4
    try clear hx4
    try clear qi4
    try clear c5
    try clear p6
    try clear c7
    try clear hcz8_0
    try clear hcz8_1
    try clear hfz8_0
    try clear hfz8_1
    try clear p4
    try clear q4
    obtain ⟨x7_1, x287000_1, rfl, HA, HK1, BK285, BK286, HB⟩ := hrel
    cases gk with
    | zero => exact absurd HA.out (by simp [squelchref04_Get.l0])
    | succ k1 =>
     have H := HA.out
     clear HA
     simp only [squelchref04_Get.l0] at H
     by_cases c9 : x7_1 < 6
     ·rw [if_pos c9] at H
      have c9b0 : decide (x7_1 < 6) = true := decide_eq_true c9
      clear c9
      by_cases c10 : 0 ≤ x7_1
      ·rw [if_pos c10] at H
       have c10b0 : decide (0 ≤ x7_1) = true := decide_eq_true c10
       clear c10
       by_cases c11 : x7_1 < (a0.size : Int)
       ·rw [if_pos c11] at H
        have c11b0 : decide (x7_1 < (a0.size : Int)) = true := decide_eq_true c11
        clear c11
        by_cases c13 : (bt a0 x7_1) = 64
        ·rw [if_pos c13] at H
         have c13b0 : ((bt a0 x7_1) == 64) = true := beq_iff_eq.mpr c13
         have c13b1 : ((bt a0 x7_1) != 64) = false := bne_eq_false_iff_eq.mpr c13
         clear c13
         have H' := Aside0.mk H
         clear H
         have p12 : 0 ≤ (x7_1 : Int) := of_decide_eq_true (by first | (with_reducible assumption) | assumption)
         have q12 : x7_1 < (a0.size : Int) := of_decide_eq_true (by first | (with_reducible assumption) | assumption)
         have hx12 := bt_at a0 x7_1
         replace p12 := eq_true p12
         replace q12 := eq_true q12
         go_wp2
         go_roundg k1
         case measure => have := HK1.out; omega
         case rel => exact ⟨(wrap64 (x7_1 + 1)), (x287000_1), (by first | rfl | (simp; done) | (simp [*]; done) | (simp; exact (fun l : List UInt8 => (by cases l <;> rfl : l.isEmpty = !(l != []))) _)), H', ⟨by have := HK1.out; omega⟩, ⟨by (with_reducible repeat (first | refine blk_drewN ?_ _ | refine blk_drew ?_ | refine blk_alloc ?_ _)); exact BK285.out⟩, ⟨by (with_reducible repeat (first | refine blk_drewN ?_ _ | refine blk_drew ?_ | refine blk_alloc ?_ _)); exact BK286.out⟩, ⟨by repeat (first | (with_reducible first | exact HB.out | apply below_alloc | apply pw_below_drewN | apply below_drew1 | refine below_set ?_ GE285.out | refine below_set ?_ GE286.out) | exact HB.out)⟩⟩
        ·rw [if_neg c13] at H
         have c13b0 : ((bt a0 x7_1) == 64) = false := beq_eq_false_iff_ne.mpr c13
         have c13b1 : ((bt a0 x7_1) != 64) = true := bne_iff_ne.mpr c13
         obtain ⟨y287, hy287⟩ : ∃ y_ : List Int, y_ = (([(Int.tdiv (bt a0 x7_1) 2) % 256] : List Int)) := ⟨_, rfl⟩
         replace H : (if x287000_1.size + (strOfNums y287).size ≤ 9223372036854775807 then (squelchref04_Get.l0 k1 a0 (wrap64 (x7_1 + 1)) (x287000_1 ++ (strOfNums y287)) (Int.tmod (wrap64 (Int.tdiv (wrap64 (bt a0 6)) 2)) 16)) else (none)) = some (r1, r2, r3, r4, r5) := by first | (rw [hy287]; with_reducible exact H) | (have H2_ := (Option.bind_some _ _).symm.trans H; rw [hy287]; with_reducible exact H2_) | (have H2_ := (Option.bind_some _ _).symm.trans H; with_reducible exact H2_) | with_reducible exact H | (rw [hy287]; exact H) | exact H
         have Ny287 := Aside0.mk hy287
         clear hy287
         by_cases c15 : x287000_1.size + (strOfNums y287).size ≤ 9223372036854775807
         ·rw [if_pos c15] at H
          have c15b0 := eq_true c15
          have c15b1 : decide (x287000_1.size + (strOfNums y287).size ≤ 9223372036854775807) = true := decide_eq_true c15
          try have c15b2 : (9223372036854775807 < x287000_1.size + (strOfNums y287).size) = False := eq_false (Nat.not_lt.2 c15)
          have H' := Aside0.mk H
          clear H
          have p12 : 0 ≤ (x7_1 : Int) := of_decide_eq_true (by first | (with_reducible assumption) | assumption)
          have q12 : x7_1 < (a0.size : Int) := of_decide_eq_true (by first | (with_reducible assumption) | assumption)
          have hx12 := bt_at a0 x7_1
          replace p12 := eq_true p12
          replace q12 := eq_true q12
          try go_wp2
          have n0_ := Aside0.mk (blk_drew BK285.out)
          have n1_ := Aside0.mk (blk_drew BK286.out)
          have n2_ := Aside0.mk (below_drew1 HB.out)
          clear BK285
          clear BK286
          clear HB
          have BK285 := n0_
          have BK286 := n1_
          have HB := n2_
          clear n0_ n1_ n2_
          have p14 : 0 ≤ (x7_1 : Int) := of_decide_eq_true (by first | (with_reducible assumption) | assumption)
          have q14 : x7_1 < (a0.size : Int) := of_decide_eq_true (by first | (with_reducible assumption) | assumption)
          have hx14 := bt_at a0 x7_1
          replace p14 := eq_true p14
          replace q14 := eq_true q14
          refine start_ (n := 11) (S := fun w' => w'.cell? ⟨gb286, 0, none⟩ = some (.string x287000_1) ∧ w'.cell? ⟨gb286, 1, none⟩ = some (.int .i64 (Int.tmod (wrap64 (Int.tdiv (wrap64 (bt a0 6)) 2)) 16))) (ds := [10]) #[false, false, false, false, false, false, false, false, false, false, false] (by kernel_rfl) rfl rfl ⟨(blk_cell BK286.out 0).trans rfl, (blk_cell BK286.out 1).trans rfl⟩ (fun hHeld => ?_); refine with_tabW squelchref04_Get.tab8 squelchref04_Get.bits8 (fun HT_ HW_ => ?_)
          generalize wr.drew = w16 at BK285 BK286 HB hHeld ⊢
          refine pure_ (i := 0) (N := some 28) (v := ?_) (a' := ?_) #[true, false, false, false, false, false, false, false, false, false, false] rfl rfl (any_of HT_.out (by kernel_rfl)) (fun _ _ _ h => h) (Or.inl ⟨by rfl, ?_⟩) ?_ ?_
          rotate_left
          ·intro w'
           go_simp
           with_reducible rfl
          rotate_left
          ·simp only [Act.put, List.setIfInBounds_toArray, List.set_cons_zero, List.set_cons_succ, i64_w, i32_w]
           rfl
          refine pure_ (i := 2) (N := some 30) (v := ?_) (a' := ?_) #[true, false, true, false, false, false, false, false, false, false, false] rfl rfl (any_of HT_.out (by kernel_rfl)) (fun _ _ _ h => h) (Or.inl ⟨by rfl, ?_⟩) ?_ ?_
          rotate_left
          ·intro w'
           go_simp
           with_reducible rfl
          rotate_left
          ·simp only [Act.put, List.setIfInBounds_toArray, List.set_cons_zero, List.set_cons_succ, i64_w, i32_w]
           rfl
          refine pure_ (i := 3) (N := some 31) (v := ?_) (a' := ?_) #[true, false, true, true, false, false, false, false, false, false, false] rfl rfl (any_of HT_.out (by kernel_rfl)) (fun _ _ _ h => h) (Or.inl ⟨by rfl, ?_⟩) ?_ ?_
          rotate_left
          ·intro w'
           go_simp
           with_reducible rfl
          rotate_left
          ·simp only [Act.put, List.setIfInBounds_toArray, List.set_cons_zero, List.set_cons_succ, i64_w, i32_w]
           rfl
          refine take_ (i := 1) (N := some 29) (v := ?_) (a' := ?_) #[true, true, true, true, false, false, false, false, false, false, false] rfl rfl (take_ofW HT_.out HW_.out (by kernel_rfl)) (fun _ _ _ h => h) (Or.inl ⟨by rfl, ?_⟩) hHeld ?_ ?_
          rotate_left
          ·rintro w' ⟨s0, s1⟩
           go_simp
           with_reducible rfl
          rotate_left
          ·simp only [Act.put, List.setIfInBounds_toArray, List.set_cons_zero, List.set_cons_succ, i64_w, i32_w]
           rfl
          refine take_ (i := 4) (N := some 32) (v := ?_) (a' := ?_) #[true, true, true, true, true, false, false, false, false, false, false] rfl rfl (take_ofW HT_.out HW_.out (by kernel_rfl)) (fun _ _ _ h => h) (Or.inl ⟨by rfl, ?_⟩) hHeld ?_ ?_
          rotate_left
          ·rintro w' ⟨s0, s1⟩
           go_simp
           with_reducible rfl
          rotate_left
          ·simp only [Act.put, List.setIfInBounds_toArray, List.set_cons_zero, List.set_cons_succ, i64_w, i32_w]
           rfl
          refine pure_ (i := 5) (N := some 33) (v := ?_) (a' := ?_) #[true, true, true, true, true, true, false, false, false, false, false] rfl rfl (any_of HT_.out (by kernel_rfl)) (fun _ _ _ h => h) (Or.inl ⟨by rfl, ?_⟩) ?_ ?_
          rotate_left
          ·intro w'
           go_simp
           with_reducible rfl
          rotate_left
          ·simp only [Act.put, List.setIfInBounds_toArray, List.set_cons_zero, List.set_cons_succ, i64_w, i32_w]
           rfl
          refine one_ (i := 6) (N := some 34) #[true, true, true, true, true, true, true, false, false, false, false] rfl rfl (one_of HT_.out (by kernel_rfl)) (by decide) (fun K hK => ?_)
          refine Kd.R_lit_step (Kd.int .u8) _ 5 ?hg (N := 34) ?hd (xs := ([(Int.tdiv (bt a0 x7_1) 2) % 256] : List Int)) (inner := [.int .u8 ((Int.tdiv (bt a0 x7_1) 2) % 256)]) (ok := fun _ => True) (okp := fun _ => True) ?hr ?hp (fun _ hk => hk) trivial (Below.refl _ _) (Nat.le_refl _) (by simp) ?_; (case hd => rfl); (case hg => rfl); (case hr => first | (go_simp; done) | (go_simp; rfl)); (case hp => exact (Reps.one (show Kd.M (Kd.int .u8) _ _ _ ((Int.tdiv (bt a0 x7_1) 2) % 256) [.int .u8 ((Int.tdiv (bt a0 x7_1) 2) % 256)] from rfl) (Reps.none _ _)))
          intro v288 w17 ho18 hb hg_ hnew_
          clear hg_ hnew_
          (first | rw [← Ny287.out] at ho18 | (simp only [Int.reduceToNat] at ho18; rw [← Ny287.out] at ho18))
          have n0_ := Aside0.mk (Kd.R_lower ho18 (below_size (by repeat (first | (with_reducible first | exact HB.out | apply below_alloc | apply pw_below_drewN | apply below_drew1 | refine below_set ?_ GE285.out | refine below_set ?_ GE286.out) | exact HB.out))))
          have n1_ := Aside0.mk (blk_below (g := gb285) (o := .cells #[.string (⟨#[]⟩ : ByteArray), .int .i64 0] 23 (0, 0)) (by (with_reducible repeat (first | refine blk_drewN ?_ _ | refine blk_drew ?_ | refine blk_alloc ?_ _)); exact BK285.out) hb)
          have n2_ := Aside0.mk (blk_below (g := gb286) (o := .cells #[.string x287000_1, .int .i64 (Int.tmod (wrap64 (Int.tdiv (wrap64 (bt a0 6)) 2)) 16)] 23 (0, 0)) (by (with_reducible repeat (first | refine blk_drewN ?_ _ | refine blk_drew ?_ | refine blk_alloc ?_ _)); exact BK286.out) hb)
          have n3_ := Aside0.mk (below_step (by repeat (first | (with_reducible first | exact HB.out | apply below_alloc | apply pw_below_drewN | apply below_drew1 | refine below_set ?_ GE285.out | refine below_set ?_ GE286.out) | exact HB.out)) hb)
          clear BK285
          clear BK286
          clear HB
          have HO289 := n0_
          have BK285 := n1_
          have BK286 := n2_
          have HB := n3_
          clear n0_ n1_ n2_ n3_
          clear hb ho18
          refine hK.out _ _ ⟨(blk_cell BK286.out 0).trans rfl, (blk_cell BK286.out 1).trans rfl⟩ (fun hHeld => ?_)
          clear hK K
          refine norm_ (a' := ?_) ?_ ?_
          rotate_left
          ·show Act.put _ (some 34) _ = _
           simp only [Act.put, List.setIfInBounds_toArray, List.set_cons_zero, List.set_cons_succ, i64_w, i32_w]
           rfl
          refine one_ (i := 7) (N := some 35) #[true, true, true, true, true, true, true, true, false, false, false] rfl rfl (one_of HT_.out (by kernel_rfl)) (by decide) (fun K hK => ?_)
          have hcv19 := own_string (P := Tryd.prog) Tryd.underlying104 Tryd.underlying5 Tryd.underlying9 (Kd.own_of_R HO289.out)
          refine value_ (w1 := ?_) (v := ?_) (by rfl) rfl ?_ ?_
          rotate_left 2
          ·go_simp
           constructor
           ·rfl
           ·rfl
          clear hcv19
          refine hK.out _ _ ⟨(blk_cell BK286.out 0).trans rfl, (blk_cell BK286.out 1).trans rfl⟩ (fun hHeld => ?_)
          clear hK K
          refine norm_ (a' := ?_) ?_ ?_
          rotate_left
          ·show Act.put _ (some 35) _ = _
           simp only [Act.put, List.setIfInBounds_toArray, List.set_cons_zero, List.set_cons_succ, i64_w, i32_w]
           rfl
          refine pure_ (i := 8) (N := some 36) (v := ?_) (a' := ?_) #[true, true, true, true, true, true, true, true, true, false, false] rfl rfl (any_of HT_.out (by kernel_rfl)) (fun _ _ _ h => h) (Or.inl ⟨by rfl, ?_⟩) ?_ ?_
          rotate_left
          ·intro w'
           go_simp
           with_reducible rfl
          rotate_left
          ·simp only [Act.put, List.setIfInBounds_toArray, List.set_cons_zero, List.set_cons_succ, i64_w, i32_w]
           rfl
          refine pure_ (i := 9) (N := some 37) (v := ?_) (a' := ?_) #[true, true, true, true, true, true, true, true, true, true, false] rfl rfl (any_of HT_.out (by kernel_rfl)) (fun _ _ _ h => h) (Or.inl ⟨by rfl, ?_⟩) ?_ ?_
          rotate_left
          ·intro w'
           go_simp
           with_reducible rfl
          rotate_left
          ·simp only [Act.put, List.setIfInBounds_toArray, List.set_cons_zero, List.set_cons_succ, i64_w, i32_w]
           rfl
          refine last_ (i := 10) (N := none) #[true, true, true, true, true, true, true, true, true, true, true] rfl rfl (one_of HT_.out (by kernel_rfl)) (by decide) (fun K hK => ?_)
          have hs20 : w17.cell? ⟨gb286, 0, none⟩ = some (.string x287000_1) := (blk_cell BK286.out 0).trans rfl
          have hfs20 := blk_frozen BK286.out 0
          have hns20_0 := NB285_286.out
          have hms20_0 := NB286_285.out
          refine skip_ (w1 := ?_) (by rfl) rfl ?_ ?_
          rotate_left
          ·go_simp
           rfl
          refine hK.out _ _ ?_
          clear hK K
          refine done_ (done_of HT_.out (by kernel_rfl)) ?_
          try go_wp2
          go_roundg k1
          case measure => have := HK1.out; omega
          case rel => exact ⟨(wrap64 (x7_1 + 1)), (x287000_1 ++ (strOfNums y287)), (by first | rfl | (simp; done) | (simp [*]; done) | (simp; exact (fun l : List UInt8 => (by cases l <;> rfl : l.isEmpty = !(l != []))) _)), H', ⟨by have := HK1.out; omega⟩, ⟨by (with_reducible repeat (first | refine blk_drewN ?_ _ | refine blk_drew ?_ | refine blk_alloc ?_ _)); refine blk_far ?_ NB285_286.out _; (with_reducible repeat (first | refine blk_drewN ?_ _ | refine blk_drew ?_ | refine blk_alloc ?_ _)); exact BK285.out⟩, ⟨by (with_reducible repeat (first | refine blk_drewN ?_ _ | refine blk_drew ?_ | refine blk_alloc ?_ _)); refine blk_put (cs := #[.string x287000_1, .int .i64 (Int.tmod (wrap64 (Int.tdiv (wrap64 (bt a0 6)) 2)) 16)]) ?_ 0 _ rfl; (with_reducible repeat (first | refine blk_drewN ?_ _ | refine blk_drew ?_ | refine blk_alloc ?_ _)); exact BK286.out⟩, ⟨by repeat (first | (with_reducible first | exact HB.out | apply below_alloc | apply pw_below_drewN | apply below_drew1 | refine below_set ?_ GE285.out | refine below_set ?_ GE286.out) | exact HB.out)⟩⟩
         ·rw [if_neg c15] at H
          exact absurd H (by simp)
       ·rw [if_neg c11] at H
        exact absurd H (by simp)
      ·rw [if_neg c10] at H
       exact absurd H (by simp)
     ·rw [if_neg c9] at H
      have c9b0 : decide (x7_1 < 6) = false := decide_eq_false c9
      clear c9
      by_cases c21 : 6 < (a0.size : Int)
      ·rw [if_pos c21] at H
       have c21b0 : decide (6 < (a0.size : Int)) = true := decide_eq_true c21
       have c21b1 : decide (6 < a0.size) = true := decide_eq_true (by omega)
       clear c21
       replace H := Option.bind_eq_some_iff.mp H
       obtain ⟨t290, A240, H⟩ := H
       replace H : (if t290 = true then ((squelchref04_Put.f k1 x287000_1 (Int.tmod (wrap64 (Int.tdiv (wrap64 (bt a0 6)) 2)) 16) (decide ((bt a0 6) ≥ 128)) ((Int.tmod (bt a0 6) 2) == 1)).bind fun t291 => (if t291.toList = a0.toList then (some (x287000_1, (Int.tmod (wrap64 (Int.tdiv (wrap64 (bt a0 6)) 2)) 16), decide ((bt a0 6) ≥ 128), ((Int.tmod (bt a0 6) 2) == 1), true)) else (some ((⟨#[]⟩ : ByteArray), 0, false, false, false)))) else (some ((⟨#[]⟩ : ByteArray), 0, false, false, false))) = some (r1, r2, r3, r4, r5) := H
       have A24 := Aside0.mk A240
       clear A240
       by_cases c25 : t290 = true
       ·subst c25
        have H1 : ((squelchref04_Put.f k1 x287000_1 (Int.tmod (wrap64 (Int.tdiv (wrap64 (bt a0 6)) 2)) 16) (decide ((bt a0 6) ≥ 128)) ((Int.tmod (bt a0 6) 2) == 1)).bind fun t291 => (if t291.toList = a0.toList then (some (x287000_1, (Int.tmod (wrap64 (Int.tdiv (wrap64 (bt a0 6)) 2)) 16), decide ((bt a0 6) ≥ 128), ((Int.tmod (bt a0 6) 2) == 1), true)) else (some ((⟨#[]⟩ : ByteArray), 0, false, false, false)))) = some (r1, r2, r3, r4, r5) := by rw [if_pos rfl] at H; exact H
        clear H
        have H := H1
        clear H1
        replace H := Option.bind_eq_some_iff.mp H
        obtain ⟨t291, A260, H⟩ := H
        replace H : (if t291.toList = a0.toList then (some (x287000_1, (Int.tmod (wrap64 (Int.tdiv (wrap64 (bt a0 6)) 2)) 16), decide ((bt a0 6) ≥ 128), ((Int.tmod (bt a0 6) 2) == 1), true)) else (some ((⟨#[]⟩ : ByteArray), 0, false, false, false))) = some (r1, r2, r3, r4, r5) := H
        have A26 := Aside0.mk A260
        clear A260
        by_cases c27 : t291.toList = a0.toList
        ·rw [if_pos c27] at H
         have c27b0 : (t291.toList == a0.toList) = true := beq_iff_eq.mpr c27
         have c27b1 : (t291.toList != a0.toList) = false := bne_eq_false_iff_eq.mpr c27
         clear c27
         simp only [Option.some.injEq, Prod.mk.injEq] at H
         obtain ⟨rfl, rfl, rfl, rfl, rfl⟩ := H
         try go_wp2
         have n0_ := Aside0.mk (blk_drew BK285.out)
         have n1_ := Aside0.mk (blk_drew BK286.out)
         have n2_ := Aside0.mk (below_drew1 HB.out)
         clear BK285
         clear BK286
         clear HB
         have BK285 := n0_
         have BK286 := n1_
         have HB := n2_
         clear n0_ n1_ n2_
         have p22 : 0 ≤ (6 : Int) := (by omega)
         have q22 : 6 < a0.size := (by have : (6 : Int) < (a0.size : Int) := of_decide_eq_true (by first | (with_reducible assumption) | assumption); omega)
         have hx22 : ∀ h : 6 < a0.size, ((a0[6]'h).toNat : Int) = bt a0 6 := bt_at a0 6
         clear p22
         have qi22 : (6 < (a0.size : Int)) = True := eq_true (of_decide_eq_true (by first | (with_reducible assumption) | assumption))
         replace q22 := eq_true q22
         have p23 : 0 ≤ (6 : Int) := (by omega)
         have q23 : 6 < a0.size := (by have : (6 : Int) < (a0.size : Int) := of_decide_eq_true (by first | (with_reducible assumption) | assumption); omega)
         have hx23 : ∀ h : 6 < a0.size, ((a0[6]'h).toNat : Int) = bt a0 6 := bt_at a0 6
         clear p23
         have qi23 : (6 < (a0.size : Int)) = True := eq_true (of_decide_eq_true (by first | (with_reducible assumption) | assumption))
         replace q23 := eq_true q23
         refine start_ (n := 9) (S := fun w' => True) (ds := []) #[false, false, false, false, false, false, false, false, false] (by kernel_rfl) rfl rfl trivial (fun hHeld => ?_); refine with_tabW squelchref04_Get.tab9 squelchref04_Get.bits9 (fun HT_ HW_ => ?_)
         generalize wr.drew = w28 at BK285 BK286 HB hHeld ⊢
         refine pure_ (i := 0) (N := some 38) (v := ?_) (a' := ?_) #[true, false, false, false, false, false, false, false, false] rfl rfl (any_of HT_.out (by kernel_rfl)) (fun _ _ _ h => h) (Or.inl ⟨by rfl, ?_⟩) ?_ ?_
         rotate_left
         ·intro w'
          go_simp
          with_reducible rfl
         rotate_left
         ·simp only [Act.put, List.setIfInBounds_toArray, List.set_cons_zero, List.set_cons_succ, i64_w, i32_w]
          rfl
         refine pure_ (i := 3) (N := some 41) (v := ?_) (a' := ?_) #[true, false, false, true, false, false, false, false, false] rfl rfl (any_of HT_.out (by kernel_rfl)) (fun _ _ _ h => h) (Or.inl ⟨by rfl, ?_⟩) ?_ ?_
         rotate_left
         ·intro w'
          go_simp
          with_reducible rfl
         rotate_left
         ·simp only [Act.put, List.setIfInBounds_toArray, List.set_cons_zero, List.set_cons_succ, i64_w, i32_w]
          rfl
         refine take_ (i := 1) (N := some 39) (v := ?_) (a' := ?_) #[true, true, false, true, false, false, false, false, false] rfl rfl (take_ofW HT_.out HW_.out (by kernel_rfl)) (fun _ _ _ h => h) (Or.inl ⟨by rfl, ?_⟩) hHeld ?_ ?_
         rotate_left
         ·intro w' _
          go_simp
          with_reducible rfl
         rotate_left
         ·simp only [Act.put, List.setIfInBounds_toArray, List.set_cons_zero, List.set_cons_succ, i64_w, i32_w]
          rfl
         refine pure_ (i := 2) (N := some 40) (v := ?_) (a' := ?_) #[true, true, true, true, false, false, false, false, false] rfl rfl (any_of HT_.out (by kernel_rfl)) (fun _ _ _ h => h) (Or.inl ⟨by rfl, ?_⟩) ?_ ?_
         rotate_left
         ·intro w'
          go_simp
          with_reducible rfl
         rotate_left
         ·simp only [Act.put, List.setIfInBounds_toArray, List.set_cons_zero, List.set_cons_succ, i64_w, i32_w]
          rfl
         refine pure_ (i := 7) (N := some 8) (v := ?_) (a' := ?_) #[true, true, true, true, false, false, false, true, false] rfl rfl (any_of HT_.out (by kernel_rfl)) (fun _ _ _ h => h) (Or.inl ⟨by rfl, ?_⟩) ?_ ?_
         rotate_left
         ·intro w'
          go_simp
          with_reducible rfl
         rotate_left
         ·simp only [Act.put, List.setIfInBounds_toArray, List.set_cons_zero, List.set_cons_succ, i64_w, i32_w]
          rfl
         refine take_ (i := 4) (N := some 42) (v := ?_) (a' := ?_) #[true, true, true, true, true, false, false, true, false] rfl rfl (take_ofW HT_.out HW_.out (by kernel_rfl)) (fun _ _ _ h => h) (Or.inl ⟨by rfl, ?_⟩) hHeld ?_ ?_
         rotate_left
         ·intro w' _
          go_simp
          with_reducible rfl
         rotate_left
         ·simp only [Act.put, List.setIfInBounds_toArray, List.set_cons_zero, List.set_cons_succ, i64_w, i32_w]
          rfl
         refine pure_ (i := 5) (N := some 43) (v := ?_) (a' := ?_) #[true, true, true, true, true, true, false, true, false] rfl rfl (any_of HT_.out (by kernel_rfl)) (fun _ _ _ h => h) (Or.inl ⟨by rfl, ?_⟩) ?_ ?_
         rotate_left
         ·intro w'
          go_simp
          with_reducible rfl
         rotate_left
         ·simp only [Act.put, List.setIfInBounds_toArray, List.set_cons_zero, List.set_cons_succ, i64_w, i32_w]
          rfl
         refine pure_ (i := 6) (N := some 44) (v := ?_) (a' := ?_) #[true, true, true, true, true, true, true, true, false] rfl rfl (any_of HT_.out (by kernel_rfl)) (fun _ _ _ h => h) (Or.inl ⟨by rfl, ?_⟩) ?_ ?_
         rotate_left
         ·intro w'
          go_simp
          with_reducible rfl
         rotate_left
         ·simp only [Act.put, List.setIfInBounds_toArray, List.set_cons_zero, List.set_cons_succ, i64_w, i32_w]
          rfl
         refine pure_ (i := 8) (N := some 9) (v := ?_) (a' := ?_) #[true, true, true, true, true, true, true, true, true] rfl rfl (any_of HT_.out (by kernel_rfl)) (fun _ _ _ h => h) (Or.inl ⟨by rfl, ?_⟩) ?_ ?_
         rotate_left
         ·intro w'
          go_simp
          with_reducible rfl
         rotate_left
         ·simp only [Act.put, List.setIfInBounds_toArray, List.set_cons_zero, List.set_cons_succ, i64_w, i32_w]
          rfl
         refine done_ (done_of HT_.out (by kernel_rfl)) ?_
         have hnb29 := NB286_285.out
         have hnc29 := NB285_286.out
         have hcz30_0 : w28.cell? ⟨gb286, 0, none⟩ = some (.string x287000_1) := (blk_cell BK286.out 0).trans rfl
         have hcz30_1 : w28.cell? ⟨gb286, 1, none⟩ = some (.int .i64 (Int.tmod (wrap64 (Int.tdiv (wrap64 (bt a0 6)) 2)) 16)) := (blk_cell BK286.out 1).trans rfl
         have hfz30_0 := blk_frozen BK286.out 0
         have hfz30_1 := blk_frozen BK286.out 1
         try go_wp2_with (first | ((with_reducible refine gate_callee (f := 39) rfl ?_); refine goesL_ (some 46) rfl rfl Tryd.func39 (by kernel_rfl) rfl #[.agg #[.string x287000_1, .int .i64 (Int.tmod (wrap64 (Int.tdiv (wrap64 (bt a0 6)) 2)) 16)]] rfl (by (try simp only [List.map_toArray, List.map_cons, List.map_nil]); first | done | rfl | (simp only [List.length_drop, List.length_take]; rfl)) ?_; (with_reducible refine (squelchref04_Right.calls k1 x287000_1 (Int.tmod (wrap64 (Int.tdiv (wrap64 (bt a0 6)) 2)) 16) true _ A24.out).mono ?_); rintro e w31 ⟨rfl, hb⟩; refine ⟨_, rfl, ?_⟩; have n0_ := Aside0.mk (blk_below (g := gb285) (o := .cells #[.string (⟨#[]⟩ : ByteArray), .int .i64 0] 23 (0, 0)) (by (with_reducible repeat (first | refine blk_drewN ?_ _ | refine blk_drew ?_ | refine blk_alloc ?_ _)); exact BK285.out) hb); have n1_ := Aside0.mk (blk_below (g := gb286) (o := .cells #[.string x287000_1, .int .i64 (Int.tmod (wrap64 (Int.tdiv (wrap64 (bt a0 6)) 2)) 16)] 23 (0, 0)) (by (with_reducible repeat (first | refine blk_drewN ?_ _ | refine blk_drew ?_ | refine blk_alloc ?_ _)); exact BK286.out) hb); have n2_ := Aside0.mk (below_step (by repeat (first | (with_reducible first | exact HB.out | apply below_alloc | apply pw_below_drewN | apply below_drew1 | refine below_set ?_ GE285.out | refine below_set ?_ GE286.out) | exact HB.out)) hb); clear BK285; clear BK286; clear HB; have BK285 := n0_; have BK286 := n1_; have HB := n2_; clear n0_ n1_ n2_; (try clear hb); (try clear hb2); (try clear hk); (try clear hi); have hcz32_0 : w31.cell? ⟨gb286, 0, none⟩ = some (.string x287000_1) := (blk_cell BK286.out 0).trans rfl; have hcz32_1 : w31.cell? ⟨gb286, 1, none⟩ = some (.int .i64 (Int.tmod (wrap64 (Int.tdiv (wrap64 (bt a0 6)) 2)) 16)) := (blk_cell BK286.out 1).trans rfl; have hfz32_0 := blk_frozen BK286.out 0; have hfz32_1 := blk_frozen BK286.out 1) | (go_at_call 53; (with_reducible refine (squelchref04_Put.calls k1 x287000_1 (Int.tmod (wrap64 (Int.tdiv (wrap64 (bt a0 6)) 2)) 16) (decide ((bt a0 6) ≥ 128)) ((Int.tmod (bt a0 6) 2) == 1) t291 _ A26.out).mono ?_); rintro e w33 ⟨rfl, hb⟩; have n0_ := Aside0.mk (blk_below (g := gb285) (o := .cells #[.string (⟨#[]⟩ : ByteArray), .int .i64 0] 23 (0, 0)) (by (with_reducible repeat (first | refine blk_drewN ?_ _ | refine blk_drew ?_ | refine blk_alloc ?_ _)); exact BK285.out) hb); have n1_ := Aside0.mk (blk_below (g := gb286) (o := .cells #[.string x287000_1, .int .i64 (Int.tmod (wrap64 (Int.tdiv (wrap64 (bt a0 6)) 2)) 16)] 23 (0, 0)) (by (with_reducible repeat (first | refine blk_drewN ?_ _ | refine blk_drew ?_ | refine blk_alloc ?_ _)); exact BK286.out) hb); have n2_ := Aside0.mk (below_step (by repeat (first | (with_reducible first | exact HB.out | apply below_alloc | apply pw_below_drewN | apply below_drew1 | refine below_set ?_ GE285.out | refine below_set ?_ GE286.out) | exact HB.out)) hb); clear BK285; clear BK286; clear HB; have BK285 := n0_; have BK286 := n1_; have HB := n2_; clear n0_ n1_ n2_; (try clear hb); (try clear hb2); (try clear hk); (try clear hi); have hcz34_0 : w33.cell? ⟨gb286, 0, none⟩ = some (.string x287000_1) := (blk_cell BK286.out 0).trans rfl; have hcz34_1 : w33.cell? ⟨gb286, 1, none⟩ = some (.int .i64 (Int.tmod (wrap64 (Int.tdiv (wrap64 (bt a0 6)) 2)) 16)) := (blk_cell BK286.out 1).trans rfl; have hfz34_0 := blk_frozen BK286.out 0; have hfz34_1 := blk_frozen BK286.out 1; have hcz35_0 : w33.cell? ⟨gb285, 0, none⟩ = some (.string (⟨#[]⟩ : ByteArray)) := (blk_cell BK285.out 0).trans rfl; have hcz35_1 : w33.cell? ⟨gb285, 1, none⟩ = some (.int .i64 0) := (blk_cell BK285.out 1).trans rfl; have hfz35_0 := blk_frozen BK285.out 0; have hfz35_1 := blk_frozen BK285.out 1))
         refine bodyPost_ret (results_list (rs := [.cell 2 23, .tmp 3, .tmp 4, .tmp 5]) rfl (by simp) (.cell gb285 23 #[.string x287000_1, .int .i64 (Int.tmod (wrap64 (Int.tdiv (wrap64 (bt a0 6)) 2)) 16)] (0, 0) _ rfl (by (with_reducible repeat (first | refine blk_drewN ?_ _ | refine blk_drew ?_ | refine blk_alloc ?_ _)); refine blk_put (cs := #[.string x287000_1, .int .i64 0]) ?_ 1 _ rfl; (with_reducible repeat (first | refine blk_drewN ?_ _ | refine blk_drew ?_ | refine blk_alloc ?_ _)); refine blk_put (cs := #[.string (⟨#[]⟩ : ByteArray), .int .i64 0]) ?_ 0 _ rfl; (with_reducible repeat (first | refine blk_drewN ?_ _ | refine blk_drew ?_ | refine blk_alloc ?_ _)); exact BK285.out) Tryd.underlying23 rfl (by kernel_rfl) (.tmp (.tmp (.tmp .nil))))) rfl ?_
         exact ⟨by first | rfl | (simp [errW_none, errW_some] <;> rfl) | (simp [*, errW_none, errW_some] <;> rfl), by repeat (first | (with_reducible first | exact HB.out | apply below_alloc | apply pw_below_drewN | apply below_drew1 | refine below_set ?_ GE285.out | refine below_set ?_ GE286.out) | exact HB.out)⟩
        ·rw [if_neg c27] at H
         have c27b0 : (t291.toList == a0.toList) = false := beq_eq_false_iff_ne.mpr c27
         have c27b1 : (t291.toList != a0.toList) = true := bne_iff_ne.mpr c27
         simp only [Option.some.injEq, Prod.mk.injEq] at H
         obtain ⟨rfl, rfl, rfl, rfl, rfl⟩ := H
         try go_wp2
         have n0_ := Aside0.mk (blk_drew BK285.out)
         have n1_ := Aside0.mk (blk_drew BK286.out)
         have n2_ := Aside0.mk (below_drew1 HB.out)
         clear BK285
         clear BK286
         clear HB
         have BK285 := n0_
         have BK286 := n1_
         have HB := n2_
         clear n0_ n1_ n2_
         have p22 : 0 ≤ (6 : Int) := (by omega)
         have q22 : 6 < a0.size := (by have : (6 : Int) < (a0.size : Int) := of_decide_eq_true (by first | (with_reducible assumption) | assumption); omega)
         have hx22 : ∀ h : 6 < a0.size, ((a0[6]'h).toNat : Int) = bt a0 6 := bt_at a0 6
         clear p22
         have qi22 : (6 < (a0.size : Int)) = True := eq_true (of_decide_eq_true (by first | (with_reducible assumption) | assumption))
         replace q22 := eq_true q22
         have p23 : 0 ≤ (6 : Int) := (by omega)
         have q23 : 6 < a0.size := (by have : (6 : Int) < (a0.size : Int) := of_decide_eq_true (by first | (with_reducible assumption) | assumption); omega)
         have hx23 : ∀ h : 6 < a0.size, ((a0[6]'h).toNat : Int) = bt a0 6 := bt_at a0 6
         clear p23
         have qi23 : (6 < (a0.size : Int)) = True := eq_true (of_decide_eq_true (by first | (with_reducible assumption) | assumption))
         replace q23 := eq_true q23
         refine start_ (n := 9) (S := fun w' => True) (ds := []) #[false, false, false, false, false, false, false, false, false] (by kernel_rfl) rfl rfl trivial (fun hHeld => ?_); refine with_tabW squelchref04_Get.tab9 squelchref04_Get.bits9 (fun HT_ HW_ => ?_)
         generalize wr.drew = w36 at BK285 BK286 HB hHeld ⊢
         refine pure_ (i := 0) (N := some 38) (v := ?_) (a' := ?_) #[true, false, false, false, false, false, false, false, false] rfl rfl (any_of HT_.out (by kernel_rfl)) (fun _ _ _ h => h) (Or.inl ⟨by rfl, ?_⟩) ?_ ?_
         rotate_left
         ·intro w'
          go_simp
          with_reducible rfl
         rotate_left
         ·simp only [Act.put, List.setIfInBounds_toArray, List.set_cons_zero, List.set_cons_succ, i64_w, i32_w]
          rfl
         refine pure_ (i := 3) (N := some 41) (v := ?_) (a' := ?_) #[true, false, false, true, false, false, false, false, false] rfl rfl (any_of HT_.out (by kernel_rfl)) (fun _ _ _ h => h) (Or.inl ⟨by rfl, ?_⟩) ?_ ?_
         rotate_left
         ·intro w'
          go_simp
          with_reducible rfl
         rotate_left
         ·simp only [Act.put, List.setIfInBounds_toArray, List.set_cons_zero, List.set_cons_succ, i64_w, i32_w]
          rfl
         refine take_ (i := 1) (N := some 39) (v := ?_) (a' := ?_) #[true, true, false, true, false, false, false, false, false] rfl rfl (take_ofW HT_.out HW_.out (by kernel_rfl)) (fun _ _ _ h => h) (Or.inl ⟨by rfl, ?_⟩) hHeld ?_ ?_
         rotate_left
         ·intro w' _
          go_simp
          with_reducible rfl
         rotate_left
         ·simp only [Act.put, List.setIfInBounds_toArray, List.set_cons_zero, List.set_cons_succ, i64_w, i32_w]
          rfl
         refine pure_ (i := 2) (N := some 40) (v := ?_) (a' := ?_) #[true, true, true, true, false, false, false, false, false] rfl rfl (any_of HT_.out (by kernel_rfl)) (fun _ _ _ h => h) (Or.inl ⟨by rfl, ?_⟩) ?_ ?_
         rotate_left
         ·intro w'
          go_simp
          with_reducible rfl
         rotate_left
         ·simp only [Act.put, List.setIfInBounds_toArray, List.set_cons_zero, List.set_cons_succ, i64_w, i32_w]
          rfl
         refine pure_ (i := 7) (N := some 8) (v := ?_) (a' := ?_) #[true, true, true, true, false, false, false, true, false] rfl rfl (any_of HT_.out (by kernel_rfl)) (fun _ _ _ h => h) (Or.inl ⟨by rfl, ?_⟩) ?_ ?_
         rotate_left
         ·intro w'
          go_simp
          with_reducible rfl
         rotate_left
         ·simp only [Act.put, List.setIfInBounds_toArray, List.set_cons_zero, List.set_cons_succ, i64_w, i32_w]
          rfl
         refine take_ (i := 4) (N := some 42) (v := ?_) (a' := ?_) #[true, true, true, true, true, false, false, true, false] rfl rfl (take_ofW HT_.out HW_.out (by kernel_rfl)) (fun _ _ _ h => h) (Or.inl ⟨by rfl, ?_⟩) hHeld ?_ ?_
         rotate_left
         ·intro w' _
          go_simp
          with_reducible rfl
         rotate_left
         ·simp only [Act.put, List.setIfInBounds_toArray, List.set_cons_zero, List.set_cons_succ, i64_w, i32_w]
          rfl
         refine pure_ (i := 5) (N := some 43) (v := ?_) (a' := ?_) #[true, true, true, true, true, true, false, true, false] rfl rfl (any_of HT_.out (by kernel_rfl)) (fun _ _ _ h => h) (Or.inl ⟨by rfl, ?_⟩) ?_ ?_
         rotate_left
         ·intro w'
          go_simp
          with_reducible rfl
         rotate_left
         ·simp only [Act.put, List.setIfInBounds_toArray, List.set_cons_zero, List.set_cons_succ, i64_w, i32_w]
          rfl
         refine pure_ (i := 6) (N := some 44) (v := ?_) (a' := ?_) #[true, true, true, true, true, true, true, true, false] rfl rfl (any_of HT_.out (by kernel_rfl)) (fun _ _ _ h => h) (Or.inl ⟨by rfl, ?_⟩) ?_ ?_
         rotate_left
         ·intro w'
          go_simp
          with_reducible rfl
         rotate_left
         ·simp only [Act.put, List.setIfInBounds_toArray, List.set_cons_zero, List.set_cons_succ, i64_w, i32_w]
          rfl
         refine pure_ (i := 8) (N := some 9) (v := ?_) (a' := ?_) #[true, true, true, true, true, true, true, true, true] rfl rfl (any_of HT_.out (by kernel_rfl)) (fun _ _ _ h => h) (Or.inl ⟨by rfl, ?_⟩) ?_ ?_
         rotate_left
         ·intro w'
          go_simp
          with_reducible rfl
         rotate_left
         ·simp only [Act.put, List.setIfInBounds_toArray, List.set_cons_zero, List.set_cons_succ, i64_w, i32_w]
          rfl
         refine done_ (done_of HT_.out (by kernel_rfl)) ?_
         have hnb37 := NB286_285.out
         have hnc37 := NB285_286.out
         have hcz38_0 : w36.cell? ⟨gb286, 0, none⟩ = some (.string x287000_1) := (blk_cell BK286.out 0).trans rfl
         have hcz38_1 : w36.cell? ⟨gb286, 1, none⟩ = some (.int .i64 (Int.tmod (wrap64 (Int.tdiv (wrap64 (bt a0 6)) 2)) 16)) := (blk_cell BK286.out 1).trans rfl
         have hfz38_0 := blk_frozen BK286.out 0
         have hfz38_1 := blk_frozen BK286.out 1
         try go_wp2_with (first | ((with_reducible refine gate_callee (f := 39) rfl ?_); refine goesL_ (some 46) rfl rfl Tryd.func39 (by kernel_rfl) rfl #[.agg #[.string x287000_1, .int .i64 (Int.tmod (wrap64 (Int.tdiv (wrap64 (bt a0 6)) 2)) 16)]] rfl (by (try simp only [List.map_toArray, List.map_cons, List.map_nil]); first | done | rfl | (simp only [List.length_drop, List.length_take]; rfl)) ?_; (with_reducible refine (squelchref04_Right.calls k1 x287000_1 (Int.tmod (wrap64 (Int.tdiv (wrap64 (bt a0 6)) 2)) 16) true _ A24.out).mono ?_); rintro e w39 ⟨rfl, hb⟩; refine ⟨_, rfl, ?_⟩; have n0_ := Aside0.mk (blk_below (g := gb285) (o := .cells #[.string (⟨#[]⟩ : ByteArray), .int .i64 0] 23 (0, 0)) (by (with_reducible repeat (first | refine blk_drewN ?_ _ | refine blk_drew ?_ | refine blk_alloc ?_ _)); exact BK285.out) hb); have n1_ := Aside0.mk (blk_below (g := gb286) (o := .cells #[.string x287000_1, .int .i64 (Int.tmod (wrap64 (Int.tdiv (wrap64 (bt a0 6)) 2)) 16)] 23 (0, 0)) (by (with_reducible repeat (first | refine blk_drewN ?_ _ | refine blk_drew ?_ | refine blk_alloc ?_ _)); exact BK286.out) hb); have n2_ := Aside0.mk (below_step (by repeat (first | (with_reducible first | exact HB.out | apply below_alloc | apply pw_below_drewN | apply below_drew1 | refine below_set ?_ GE285.out | refine below_set ?_ GE286.out) | exact HB.out)) hb); clear BK285; clear BK286; clear HB; have BK285 := n0_; have BK286 := n1_; have HB := n2_; clear n0_ n1_ n2_; (try clear hb); (try clear hb2); (try clear hk); (try clear hi); have hcz40_0 : w39.cell? ⟨gb286, 0, none⟩ = some (.string x287000_1) := (blk_cell BK286.out 0).trans rfl; have hcz40_1 : w39.cell? ⟨gb286, 1, none⟩ = some (.int .i64 (Int.tmod (wrap64 (Int.tdiv (wrap64 (bt a0 6)) 2)) 16)) := (blk_cell BK286.out 1).trans rfl; have hfz40_0 := blk_frozen BK286.out 0; have hfz40_1 := blk_frozen BK286.out 1) | (go_at_call 53; (with_reducible refine (squelchref04_Put.calls k1 x287000_1 (Int.tmod (wrap64 (Int.tdiv (wrap64 (bt a0 6)) 2)) 16) (decide ((bt a0 6) ≥ 128)) ((Int.tmod (bt a0 6) 2) == 1) t291 _ A26.out).mono ?_); rintro e w41 ⟨rfl, hb⟩; have n0_ := Aside0.mk (blk_below (g := gb285) (o := .cells #[.string (⟨#[]⟩ : ByteArray), .int .i64 0] 23 (0, 0)) (by (with_reducible repeat (first | refine blk_drewN ?_ _ | refine blk_drew ?_ | refine blk_alloc ?_ _)); exact BK285.out) hb); have n1_ := Aside0.mk (blk_below (g := gb286) (o := .cells #[.string x287000_1, .int .i64 (Int.tmod (wrap64 (Int.tdiv (wrap64 (bt a0 6)) 2)) 16)] 23 (0, 0)) (by (with_reducible repeat (first | refine blk_drewN ?_ _ | refine blk_drew ?_ | refine blk_alloc ?_ _)); exact BK286.out) hb); have n2_ := Aside0.mk (below_step (by repeat (first | (with_reducible first | exact HB.out | apply below_alloc | apply pw_below_drewN | apply below_drew1 | refine below_set ?_ GE285.out | refine below_set ?_ GE286.out) | exact HB.out)) hb); clear BK285; clear BK286; clear HB; have BK285 := n0_; have BK286 := n1_; have HB := n2_; clear n0_ n1_ n2_; (try clear hb); (try clear hb2); (try clear hk); (try clear hi); have hcz42_0 : w41.cell? ⟨gb285, 0, none⟩ = some (.string (⟨#[]⟩ : ByteArray)) := (blk_cell BK285.out 0).trans rfl; have hcz42_1 : w41.cell? ⟨gb285, 1, none⟩ = some (.int .i64 0) := (blk_cell BK285.out 1).trans rfl; have hfz42_0 := blk_frozen BK285.out 0; have hfz42_1 := blk_frozen BK285.out 1))
         refine bodyPost_ret (results_list (rs := [.cell 2 23, .tmp 3, .tmp 4, .tmp 5]) rfl (by simp) (.cell gb285 23 #[.string (⟨#[]⟩ : ByteArray), .int .i64 0] (0, 0) _ rfl (by (with_reducible repeat (first | refine blk_drewN ?_ _ | refine blk_drew ?_ | refine blk_alloc ?_ _)); refine blk_put (cs := #[.string (⟨#[]⟩ : ByteArray), .int .i64 0]) ?_ 1 _ rfl; (with_reducible repeat (first | refine blk_drewN ?_ _ | refine blk_drew ?_ | refine blk_alloc ?_ _)); refine blk_put (cs := #[.string (⟨#[]⟩ : ByteArray), .int .i64 0]) ?_ 0 _ rfl; (with_reducible repeat (first | refine blk_drewN ?_ _ | refine blk_drew ?_ | refine blk_alloc ?_ _)); exact BK285.out) Tryd.underlying23 rfl (by kernel_rfl) (.tmp (.tmp (.tmp .nil))))) rfl ?_
         exact ⟨by first | rfl | (simp [errW_none, errW_some] <;> rfl) | (simp [*, errW_none, errW_some] <;> rfl), by repeat (first | (with_reducible first | exact HB.out | apply below_alloc | apply pw_below_drewN | apply below_drew1 | refine below_set ?_ GE285.out | refine below_set ?_ GE286.out) | exact HB.out)⟩
       ·replace c25 := Bool.eq_false_iff.mpr c25
        subst c25
        have H1 : (some ((⟨#[]⟩ : ByteArray), 0, false, false, false)) = some (r1, r2, r3, r4, r5) := by rw [if_neg (show ¬ (false = true) by decide)] at H; exact H
        clear H
        have H := H1
        clear H1
        simp only [Option.some.injEq, Prod.mk.injEq] at H
        obtain ⟨rfl, rfl, rfl, rfl, rfl⟩ := H
        try go_wp2
        have n0_ := Aside0.mk (blk_drew BK285.out)
        have n1_ := Aside0.mk (blk_drew BK286.out)
        have n2_ := Aside0.mk (below_drew1 HB.out)
        clear BK285
        clear BK286
        clear HB
        have BK285 := n0_
        have BK286 := n1_
        have HB := n2_
        clear n0_ n1_ n2_
        have p22 : 0 ≤ (6 : Int) := (by omega)
        have q22 : 6 < a0.size := (by have : (6 : Int) < (a0.size : Int) := of_decide_eq_true (by first | (with_reducible assumption) | assumption); omega)
        have hx22 : ∀ h : 6 < a0.size, ((a0[6]'h).toNat : Int) = bt a0 6 := bt_at a0 6
        clear p22
        have qi22 : (6 < (a0.size : Int)) = True := eq_true (of_decide_eq_true (by first | (with_reducible assumption) | assumption))
        replace q22 := eq_true q22
        have p23 : 0 ≤ (6 : Int) := (by omega)
        have q23 : 6 < a0.size := (by have : (6 : Int) < (a0.size : Int) := of_decide_eq_true (by first | (with_reducible assumption) | assumption); omega)
        have hx23 : ∀ h : 6 < a0.size, ((a0[6]'h).toNat : Int) = bt a0 6 := bt_at a0 6
        clear p23
        have qi23 : (6 < (a0.size : Int)) = True := eq_true (of_decide_eq_true (by first | (with_reducible assumption) | assumption))
        replace q23 := eq_true q23
        refine start_ (n := 9) (S := fun w' => True) (ds := []) #[false, false, false, false, false, false, false, false, false] (by kernel_rfl) rfl rfl trivial (fun hHeld => ?_); refine with_tabW squelchref04_Get.tab9 squelchref04_Get.bits9 (fun HT_ HW_ => ?_)
        generalize wr.drew = w43 at BK285 BK286 HB hHeld ⊢
        refine pure_ (i := 0) (N := some 38) (v := ?_) (a' := ?_) #[true, false, false, false, false, false, false, false, false] rfl rfl (any_of HT_.out (by kernel_rfl)) (fun _ _ _ h => h) (Or.inl ⟨by rfl, ?_⟩) ?_ ?_
        rotate_left
        ·intro w'
         go_simp
         with_reducible rfl
        rotate_left
        ·simp only [Act.put, List.setIfInBounds_toArray, List.set_cons_zero, List.set_cons_succ, i64_w, i32_w]
         rfl
        refine pure_ (i := 3) (N := some 41) (v := ?_) (a' := ?_) #[true, false, false, true, false, false, false, false, false] rfl rfl (any_of HT_.out (by kernel_rfl)) (fun _ _ _ h => h) (Or.inl ⟨by rfl, ?_⟩) ?_ ?_
        rotate_left
        ·intro w'
         go_simp
         with_reducible rfl
        rotate_left
        ·simp only [Act.put, List.setIfInBounds_toArray, List.set_cons_zero, List.set_cons_succ, i64_w, i32_w]
         rfl
        refine take_ (i := 1) (N := some 39) (v := ?_) (a' := ?_) #[true, true, false, true, false, false, false, false, false] rfl rfl (take_ofW HT_.out HW_.out (by kernel_rfl)) (fun _ _ _ h => h) (Or.inl ⟨by rfl, ?_⟩) hHeld ?_ ?_
        rotate_left
        ·intro w' _
         go_simp
         with_reducible rfl
        rotate_left
        ·simp only [Act.put, List.setIfInBounds_toArray, List.set_cons_zero, List.set_cons_succ, i64_w, i32_w]
         rfl
        refine pure_ (i := 2) (N := some 40) (v := ?_) (a' := ?_) #[true, true, true, true, false, false, false, false, false] rfl rfl (any_of HT_.out (by kernel_rfl)) (fun _ _ _ h => h) (Or.inl ⟨by rfl, ?_⟩) ?_ ?_
        rotate_left
        ·intro w'
         go_simp
         with_reducible rfl
        rotate_left
        ·simp only [Act.put, List.setIfInBounds_toArray, List.set_cons_zero, List.set_cons_succ, i64_w, i32_w]
         rfl
        refine pure_ (i := 7) (N := some 8) (v := ?_) (a' := ?_) #[true, true, true, true, false, false, false, true, false] rfl rfl (any_of HT_.out (by kernel_rfl)) (fun _ _ _ h => h) (Or.inl ⟨by rfl, ?_⟩) ?_ ?_
        rotate_left
        ·intro w'
         go_simp
         with_reducible rfl
        rotate_left
        ·simp only [Act.put, List.setIfInBounds_toArray, List.set_cons_zero, List.set_cons_succ, i64_w, i32_w]
         rfl
        refine take_ (i := 4) (N := some 42) (v := ?_) (a' := ?_) #[true, true, true, true, true, false, false, true, false] rfl rfl (take_ofW HT_.out HW_.out (by kernel_rfl)) (fun _ _ _ h => h) (Or.inl ⟨by rfl, ?_⟩) hHeld ?_ ?_
        rotate_left
        ·intro w' _
         go_simp
         with_reducible rfl
        rotate_left
        ·simp only [Act.put, List.setIfInBounds_toArray, List.set_cons_zero, List.set_cons_succ, i64_w, i32_w]
         rfl
        refine pure_ (i := 5) (N := some 43) (v := ?_) (a' := ?_) #[true, true, true, true, true, true, false, true, false] rfl rfl (any_of HT_.out (by kernel_rfl)) (fun _ _ _ h => h) (Or.inl ⟨by rfl, ?_⟩) ?_ ?_
        rotate_left
        ·intro w'
         go_simp
         with_reducible rfl
        rotate_left
        ·simp only [Act.put, List.setIfInBounds_toArray, List.set_cons_zero, List.set_cons_succ, i64_w, i32_w]
         rfl
        refine pure_ (i := 6) (N := some 44) (v := ?_) (a' := ?_) #[true, true, true, true, true, true, true, true, false] rfl rfl (any_of HT_.out (by kernel_rfl)) (fun _ _ _ h => h) (Or.inl ⟨by rfl, ?_⟩) ?_ ?_
        rotate_left
        ·intro w'
         go_simp
         with_reducible rfl
        rotate_left
        ·simp only [Act.put, List.setIfInBounds_toArray, List.set_cons_zero, List.set_cons_succ, i64_w, i32_w]
         rfl
        refine pure_ (i := 8) (N := some 9) (v := ?_) (a' := ?_) #[true, true, true, true, true, true, true, true, true] rfl rfl (any_of HT_.out (by kernel_rfl)) (fun _ _ _ h => h) (Or.inl ⟨by rfl, ?_⟩) ?_ ?_
        rotate_left
        ·intro w'
         go_simp
         with_reducible rfl
        rotate_left
        ·simp only [Act.put, List.setIfInBounds_toArray, List.set_cons_zero, List.set_cons_succ, i64_w, i32_w]
         rfl
        refine done_ (done_of HT_.out (by kernel_rfl)) ?_
        have hnb44 := NB286_285.out
        have hnc44 := NB285_286.out
        have hcz45_0 : w43.cell? ⟨gb286, 0, none⟩ = some (.string x287000_1) := (blk_cell BK286.out 0).trans rfl
        have hcz45_1 : w43.cell? ⟨gb286, 1, none⟩ = some (.int .i64 (Int.tmod (wrap64 (Int.tdiv (wrap64 (bt a0 6)) 2)) 16)) := (blk_cell BK286.out 1).trans rfl
        have hfz45_0 := blk_frozen BK286.out 0
        have hfz45_1 := blk_frozen BK286.out 1
        try go_wp2_with (first | ((with_reducible refine gate_callee (f := 39) rfl ?_); refine goesL_ (some 46) rfl rfl Tryd.func39 (by kernel_rfl) rfl #[.agg #[.string x287000_1, .int .i64 (Int.tmod (wrap64 (Int.tdiv (wrap64 (bt a0 6)) 2)) 16)]] rfl (by (try simp only [List.map_toArray, List.map_cons, List.map_nil]); first | done | rfl | (simp only [List.length_drop, List.length_take]; rfl)) ?_; (with_reducible refine (squelchref04_Right.calls k1 x287000_1 (Int.tmod (wrap64 (Int.tdiv (wrap64 (bt a0 6)) 2)) 16) false _ A24.out).mono ?_); rintro e w46 ⟨rfl, hb⟩; refine ⟨_, rfl, ?_⟩; have n0_ := Aside0.mk (blk_below (g := gb285) (o := .cells #[.string (⟨#[]⟩ : ByteArray), .int .i64 0] 23 (0, 0)) (by (with_reducible repeat (first | refine blk_drewN ?_ _ | refine blk_drew ?_ | refine blk_alloc ?_ _)); exact BK285.out) hb); have n1_ := Aside0.mk (blk_below (g := gb286) (o := .cells #[.string x287000_1, .int .i64 (Int.tmod (wrap64 (Int.tdiv (wrap64 (bt a0 6)) 2)) 16)] 23 (0, 0)) (by (with_reducible repeat (first | refine blk_drewN ?_ _ | refine blk_drew ?_ | refine blk_alloc ?_ _)); exact BK286.out) hb); have n2_ := Aside0.mk (below_step (by repeat (first | (with_reducible first | exact HB.out | apply below_alloc | apply pw_below_drewN | apply below_drew1 | refine below_set ?_ GE285.out | refine below_set ?_ GE286.out) | exact HB.out)) hb); clear BK285; clear BK286; clear HB; have BK285 := n0_; have BK286 := n1_; have HB := n2_; clear n0_ n1_ n2_; (try clear hb); (try clear hb2); (try clear hk); (try clear hi); have hcz47_0 : w46.cell? ⟨gb285, 0, none⟩ = some (.string (⟨#[]⟩ : ByteArray)) := (blk_cell BK285.out 0).trans rfl; have hcz47_1 : w46.cell? ⟨gb285, 1, none⟩ = some (.int .i64 0) := (blk_cell BK285.out 1).trans rfl; have hfz47_0 := blk_frozen BK285.out 0; have hfz47_1 := blk_frozen BK285.out 1))
        refine bodyPost_ret (results_list (rs := [.cell 2 23, .tmp 3, .tmp 4, .tmp 5]) rfl (by simp) (.cell gb285 23 #[.string (⟨#[]⟩ : ByteArray), .int .i64 0] (0, 0) _ rfl (by (with_reducible repeat (first | refine blk_drewN ?_ _ | refine blk_drew ?_ | refine blk_alloc ?_ _)); refine blk_put (cs := #[.string (⟨#[]⟩ : ByteArray), .int .i64 0]) ?_ 1 _ rfl; (with_reducible repeat (first | refine blk_drewN ?_ _ | refine blk_drew ?_ | refine blk_alloc ?_ _)); refine blk_put (cs := #[.string (⟨#[]⟩ : ByteArray), .int .i64 0]) ?_ 0 _ rfl; (with_reducible repeat (first | refine blk_drewN ?_ _ | refine blk_drew ?_ | refine blk_alloc ?_ _)); exact BK285.out) Tryd.underlying23 rfl (by kernel_rfl) (.tmp (.tmp (.tmp .nil))))) rfl ?_
        exact ⟨by first | rfl | (simp [errW_none, errW_some] <;> rfl) | (simp [*, errW_none, errW_some] <;> rfl), by repeat (first | (with_reducible first | exact HB.out | apply below_alloc | apply pw_below_drewN | apply below_drew1 | refine below_set ?_ GE285.out | refine below_set ?_ GE286.out) | exact HB.out)⟩
      ·rw [if_neg c21] at H
       exact absurd H (by simp)
  ·rw [if_neg c3] at H
   exact absurd H (by simp)
 ·rw [if_neg c2] at H
  have c2b0 : ((a0.size : Int) == 7) = false := beq_eq_false_iff_ne.mpr c2
  have c2b1 : ((a0.size : Int) != 7) = true := bne_iff_ne.mpr c2
  simp only [Option.some.injEq, Prod.mk.injEq] at H
  obtain ⟨rfl, rfl, rfl, rfl, rfl⟩ := H
  go_enter Tryd.func55, Tryd.ntmps55
  go_wp2_with (first | ((with_reducible refine gate_dst (N := 2) rfl ?_); refine box_event ?hg (N := 2) ?hd (cs := #[.string (⟨#[]⟩ : ByteArray), .int .i64 0]) (t := 23) ?hr ?_; (case hd => rfl); (case hg => rfl); (case hr => first | (go_simp; done) | (go_simp; rfl)); intro gb285 hg w48 hbox hb; have n0_ := Aside0.mk (below_step (by repeat (first | (with_reducible first | exact HB.out | apply below_alloc | apply pw_below_drewN | apply below_drew1) | exact HB.out)) hb); have n1_ := Aside0.mk (hbox); have n2_ := Aside0.mk ((by rw [hg]; exact (below_size (by repeat (first | (with_reducible first | exact HB.out | apply below_alloc | apply pw_below_drewN | apply below_drew1) | exact HB.out))) : w.heap.size ≤ gb285)); have n3_ := Aside0.mk ((by rw [hg]; exact (below_size (by repeat (first | (with_reducible first | exact HB.out | apply below_alloc | apply pw_below_drewN | apply below_drew1) | exact HB.out))) : w.heap.size ≤ gb285)); clear HB; have HB := n0_; have BK285 := n1_; have GW285 := n2_; have GE285 := n3_; clear n0_ n1_ n2_ n3_; clear hb hbox hg; have hcz49_0 : w48.cell? ⟨gb285, 0, none⟩ = some (.string (⟨#[]⟩ : ByteArray)) := (blk_cell BK285.out 0).trans rfl; have hcz49_1 : w48.cell? ⟨gb285, 1, none⟩ = some (.int .i64 0) := (blk_cell BK285.out 1).trans rfl; have hfz49_0 := blk_frozen BK285.out 0; have hfz49_1 := blk_frozen BK285.out 1))
  refine bodyPost_ret (results_list (rs := [.cell 2 23, .tmp 3, .tmp 4, .tmp 5]) rfl (by simp) (.cell gb285 23 #[.string (⟨#[]⟩ : ByteArray), .int .i64 0] (0, 0) _ rfl (by (with_reducible repeat (first | refine blk_drewN ?_ _ | refine blk_drew ?_ | refine blk_alloc ?_ _)); refine blk_put (cs := #[.string (⟨#[]⟩ : ByteArray), .int .i64 0]) ?_ 1 _ rfl; (with_reducible repeat (first | refine blk_drewN ?_ _ | refine blk_drew ?_ | refine blk_alloc ?_ _)); refine blk_put (cs := #[.string (⟨#[]⟩ : ByteArray), .int .i64 0]) ?_ 0 _ rfl; (with_reducible repeat (first | refine blk_drewN ?_ _ | refine blk_drew ?_ | refine blk_alloc ?_ _)); exact BK285.out) Tryd.underlying23 rfl (by kernel_rfl) (.tmp (.tmp (.tmp .nil))))) rfl ?_
  exact ⟨by first | rfl | (simp [errW_none, errW_some] <;> rfl) | (simp [*, errW_none, errW_some] <;> rfl), by repeat (first | (with_reducible first | exact HB.out | apply below_alloc | apply pw_below_drewN | apply below_drew1 | refine below_set ?_ GE285.out) | exact HB.out)⟩

end Go.Proofs.YtpmieapgbdbabaaDoor.QAll
end

section
/- Walks, written by a program of this session (wip/pp): a Go function comes to what the Lean function beside it tells. -/
namespace Go.Proofs.YtpmieapgbdbabaaDoor.QAll
open Go.RowKit Go.Proofs.YtpmieapgbdbabaaDoorW.PrintWords Go.Proofs.YtpmieapgbdbabaaDoorW.PrintLast Go.Proofs.YtpmieapgbdbabaaDoorW.PrintMore
set_option linter.unusedVariables false
set_option linter.unusedSimpArgs false

def squelchref05_ordered.l0 : Nat → List (S37) → Int → Option (Bool)
 | 0, _, _ => none
 | k + 1, x0, x3 => if x3 < (x0.length : Int) then (if 0 ≤ x3 then (if (rd_T37 x0 x3).f1 = true then (if 0 ≤ (wrap64 (x3 - 1)) then (if (wrap64 (x3 - 1)) < (x0.length : Int) then (if ((rd_T37 x0 (wrap64 (x3 - 1))).f1 = true) then (squelchref05_ordered.l0 k x0 (wrap64 (x3 + 1))) else (some false)) else (none)) else (none)) else (squelchref05_ordered.l0 k x0 (wrap64 (x3 + 1)))) else (none)) else (some true)
def squelchref05_ordered.f (k : Nat) (l0 : List (S37)) : Option (Bool) := squelchref05_ordered.l0 k l0 3
set_option maxHeartbeats 8000000 in
set_option maxRecDepth 100000 in
theorem squelchref05_ordered.calls (k : Nat) (A0 : Option Addr) (c0 : Nat) (l0 : List (S37)) (r : Bool) (w : World) (hr0 : Kd.C k37 w A0 l0.length l0) (hc0 : l0.length ≤ c0) (h : squelchref05_ordered.f k l0 = some r) :
  Calls Tryd.prog 64 #[.slice A0 l0.length c0] w fun e w' => e = .returned (.bool r) ∧ Drawn0 w w' := by
 have HR0 := Aside0.mk hr0
 have HC0 := Aside0.mk hc0
 clear hr0 hc0
 have H : (squelchref05_ordered.l0 k l0 3) = some r := h
 clear h
 have H' := Aside0.mk H
 clear H
 go_enter Tryd.func64, Tryd.ntmps64
 go_wp2
 go_loopg [3] k (fun kq v3 w' => ∃ (x3_1 : Int), v3 = .int .i64 x3_1 ∧ Aside0 (squelchref05_ordered.l0 kq l0 x3_1 = some r) ∧ Aside0 (kq ≤ k) ∧ Drawn0 w w')
 case atStart => exact ⟨(3), (by first | rfl | (simp; done) | (simp [*]; done) | (simp; exact (fun l : List UInt8 => (by cases l <;> rfl : l.isEmpty = !(l != []))) _)), H', ⟨Nat.le_refl _⟩, by repeat (first | exact Drawn0.refl _ | apply Drawn0.step)⟩
 case round =>
  clear H'
  obtain ⟨x3_1, rfl, HA, HK1, ⟨m1, rfl⟩⟩ := hrel
  cases gk with
  | zero => exact absurd HA.out (by simp [squelchref05_ordered.l0])
  | succ k1 =>
   have H := HA.out
   clear HA
   simp only [squelchref05_ordered.l0] at H
   by_cases c2 : x3_1 < (l0.length : Int)
   ·rw [if_pos c2] at H
    have c2b0 : decide (x3_1 < (l0.length : Int)) = true := decide_eq_true c2
    clear c2
    by_cases c3 : 0 ≤ x3_1
    ·rw [if_pos c3] at H
     have c3b0 : decide (0 ≤ x3_1) = true := decide_eq_true c3
     clear c3
     obtain ⟨bq4, hbq4⟩ : ∃ b_ : Bool, b_ = ((rd_T37 l0 x3_1).f1) := ⟨_, rfl⟩
     replace H : (if bq4 = true then (if 0 ≤ (wrap64 (x3_1 - 1)) then (if (wrap64 (x3_1 - 1)) < (l0.length : Int) then (if ((rd_T37 l0 (wrap64 (x3_1 - 1))).f1 = true) then (squelchref05_ordered.l0 k1 l0 (wrap64 (x3_1 + 1))) else (some false)) else (none)) else (none)) else (squelchref05_ordered.l0 k1 l0 (wrap64 (x3_1 + 1)))) = some r := by rw [← hbq4] at H; exact H
     have Nbq4 := Aside0.mk hbq4
     clear hbq4
     by_cases c5 : bq4 = true
     ·subst c5
      have H1 : (if 0 ≤ (wrap64 (x3_1 - 1)) then (if (wrap64 (x3_1 - 1)) < (l0.length : Int) then (if ((rd_T37 l0 (wrap64 (x3_1 - 1))).f1 = true) then (squelchref05_ordered.l0 k1 l0 (wrap64 (x3_1 + 1))) else (some false)) else (none)) else (none)) = some r := by rw [if_pos rfl] at H; exact H
      clear H
      have H := H1
      clear H1
      obtain ⟨ji6, hji6⟩ : ∃ j_ : Int, (wrap64 (x3_1 - 1)) = j_ := ⟨_, rfl⟩
      replace H : (if 0 ≤ (ji6) then (if (ji6) < (l0.length : Int) then (if ((rd_T37 l0 (ji6)).f1 = true) then (squelchref05_ordered.l0 k1 l0 (wrap64 (x3_1 + 1))) else (some false)) else (none)) else (none)) = some r := by first | (rw [hji6] at H; exact H) | (simp only [hji6] at H ⊢; exact H)
      have hji6w : (IntKind.i64.wrap (x3_1 - 1)) = ji6 := (i64_w _).trans hji6
      by_cases c7 : 0 ≤ (ji6)
      ·rw [if_pos c7] at H
       have c7b0 : decide (0 ≤ (ji6)) = true := decide_eq_true c7
       clear c7
       by_cases c8 : (ji6) < (l0.length : Int)
       ·rw [if_pos c8] at H
        have c8b0 : decide ((ji6) < (l0.length : Int)) = true := decide_eq_true c8
        clear c8
        obtain ⟨bq9, hbq9⟩ : ∃ b_ : Bool, b_ = ((rd_T37 l0 (ji6)).f1) := ⟨_, rfl⟩
        replace H : (if (bq9 = true) then (squelchref05_ordered.l0 k1 l0 (wrap64 (x3_1 + 1))) else (some false)) = some r := by rw [← hbq9] at H; exact H
        have Nbq9 := Aside0.mk hbq9
        clear hbq9
        by_cases c10 : (bq9 = true)
        ·subst c10
         have H1 : (squelchref05_ordered.l0 k1 l0 (wrap64 (x3_1 + 1))) = some r := by rw [if_pos rfl] at H; exact H
         clear H
         have H := H1
         clear H1
         have H' := Aside0.mk H
         clear H
         have p292 : 0 ≤ (x3_1 : Int) := of_decide_eq_true (by first | (with_reducible assumption) | assumption)
         have q292 : x3_1 < (l0.length : Int) := of_decide_eq_true (by first | (with_reducible assumption) | assumption)
         obtain ⟨ad292, e292, hx292_0, hx292_1, hx292_2⟩ := at_T37 HR0.out x3_1 p292 q292
         (try rw [← Nbq4.out] at hx292_2)
         (try rw [← Nbq9.out] at hx292_2)
         cases e292
         replace p292 := eq_true p292
         replace q292 := eq_true q292
         have p293 : 0 ≤ ((ji6) : Int) := of_decide_eq_true (by first | (with_reducible assumption) | assumption)
         have q293 : (ji6) < (l0.length : Int) := of_decide_eq_true (by first | (with_reducible assumption) | assumption)
         obtain ⟨ad293, e293, hx293_0, hx293_1, hx293_2⟩ := at_T37 HR0.out (ji6) p293 q293
         (try rw [← Nbq4.out] at hx293_2)
         (try rw [← Nbq9.out] at hx293_2)
         obtain rfl : ad292 = ad293 := (by injection e293)
         replace p293 := eq_true p293
         replace q293 := eq_true q293
         go_wp2
         go_roundg k1
         case measure => have := HK1.out; omega
         case rel => exact ⟨(wrap64 (x3_1 + 1)), (by first | rfl | (simp; done) | (simp [*]; done) | (simp; exact (fun l : List UInt8 => (by cases l <;> rfl : l.isEmpty = !(l != []))) _)), H', ⟨by have := HK1.out; omega⟩, by repeat (first | exact Drawn0.refl _ | apply Drawn0.step)⟩
        ·replace c10 := Bool.eq_false_iff.mpr c10
         subst c10
         have H1 : (some false) = some r := by rw [if_neg (show ¬ (false = true) by decide)] at H; exact H
         clear H
         have H := H1
         clear H1
         obtain rfl := Option.some.inj H
         have p292 : 0 ≤ (x3_1 : Int) := of_decide_eq_true (by first | (with_reducible assumption) | assumption)
         have q292 : x3_1 < (l0.length : Int) := of_decide_eq_true (by first | (with_reducible assumption) | assumption)
         obtain ⟨ad292, e292, hx292_0, hx292_1, hx292_2⟩ := at_T37 HR0.out x3_1 p292 q292
         (try rw [← Nbq4.out] at hx292_2)
         (try rw [← Nbq9.out] at hx292_2)
         cases e292
         replace p292 := eq_true p292
         replace q292 := eq_true q292
         have p293 : 0 ≤ ((ji6) : Int) := of_decide_eq_true (by first | (with_reducible assumption) | assumption)
         have q293 : (ji6) < (l0.length : Int) := of_decide_eq_true (by first | (with_reducible assumption) | assumption)
         obtain ⟨ad293, e293, hx293_0, hx293_1, hx293_2⟩ := at_T37 HR0.out (ji6) p293 q293
         (try rw [← Nbq4.out] at hx293_2)
         (try rw [← Nbq9.out] at hx293_2)
         obtain rfl : ad292 = ad293 := (by injection e293)
         replace p293 := eq_true p293
         replace q293 := eq_true q293
         go_wp2
         go_ret
         exact ⟨by first | rfl | (simp; done) | (simp only [← hji6] <;> (first | rfl | simp)) | (simp [*]; done), by repeat (first | exact Drawn0.refl _ | apply Drawn0.step)⟩
       ·rw [if_neg c8] at H
        exact absurd H (by simp)
      ·rw [if_neg c7] at H
       exact absurd H (by simp)
     ·replace c5 := Bool.eq_false_iff.mpr c5
      subst c5
      have H1 : (squelchref05_ordered.l0 k1 l0 (wrap64 (x3_1 + 1))) = some r := by rw [if_neg (show ¬ (false = true) by decide)] at H; exact H
      clear H
      have H := H1
      clear H1
      have H' := Aside0.mk H
      clear H
      have p292 : 0 ≤ (x3_1 : Int) := of_decide_eq_true (by first | (with_reducible assumption) | assumption)
      have q292 : x3_1 < (l0.length : Int) := of_decide_eq_true (by first | (with_reducible assumption) | assumption)
      obtain ⟨ad292, e292, hx292_0, hx292_1, hx292_2⟩ := at_T37 HR0.out x3_1 p292 q292
      (try rw [← Nbq4.out] at hx292_2)
      cases e292
      replace p292 := eq_true p292
      replace q292 := eq_true q292
      go_wp2
      go_roundg k1
      case measure => have := HK1.out; omega
      case rel => exact ⟨(wrap64 (x3_1 + 1)), (by first | rfl | (simp; done) | (simp [*]; done) | (simp; exact (fun l : List UInt8 => (by cases l <;> rfl : l.isEmpty = !(l != []))) _)), H', ⟨by have := HK1.out; omega⟩, by repeat (first | exact Drawn0.refl _ | apply Drawn0.step)⟩
    ·rw [if_neg c3] at H
     exact absurd H (by simp)
   ·rw [if_neg c2] at H
    have c2b0 : decide (x3_1 < (l0.length : Int)) = false := decide_eq_false c2
    clear c2
    obtain rfl := Option.some.inj H
    go_wp2
    go_ret
    exact ⟨by first | rfl | (simp; done) | (simp [*]; done) | (simp; exact (fun l : List UInt8 => (by cases l <;> rfl : l.isEmpty = !(l != []))) _), by repeat (first | exact Drawn0.refl _ | apply Drawn0.step)⟩

end Go.Proofs.YtpmieapgbdbabaaDoor.QAll
end

section
/- Walks, written by a program of this session (wip/pp): a Go function comes to what the Lean function beside it tells. -/
namespace Go.Proofs.YtpmieapgbdbabaaDoor.QAll
open Go.RowKit Go.Proofs.YtpmieapgbdbabaaDoorW.PrintWords Go.Proofs.YtpmieapgbdbabaaDoorW.PrintLast Go.Proofs.YtpmieapgbdbabaaDoorW.PrintMore
set_option linter.unusedVariables false
set_option linter.unusedSimpArgs false

def squelchref05_Get.l0 : Nat → ByteArray → Int → List (S37) → Option ((List (S37)) × Int × Int)
 | 0, _, _, _ => none
 | k + 1, x0, x6, x296000 => if (wrap64 (x6 + 7)) > (x0.size : Int) then (some (([] : List (S37)), 0, 4)) else (if 0 ≤ x6 then (if x6 ≤ (wrap64 (x6 + 7)) then (if (wrap64 (x6 + 7)) ≤ (x0.size : Int) then ((squelchref04_Get.f k (x0.extract (x6 : Int).toNat ((wrap64 (x6 + 7)) : Int).toNat)).bind fun bt296 => (if bt296.2.2.2.2 = true then (if (x296000.length : Int) = 10 then (some (([] : List (S37)), 0, 11)) else (if x296000.length < 4398046511104 then ((some (x296000 ++ [(⟨(⟨bt296.1, bt296.2.1⟩ : S23), bt296.2.2.1⟩ : S37)] : List (S37))).bind fun y302 => (if bt296.2.2.2.1 = true then (if (y302.length : Int) = 1 then (some (([] : List (S37)), 0, 2)) else ((squelchref05_ordered.f k y302).bind fun t305 => (if t305 = true then (some (y302, wrap64 (x6 + 7), 0)) else (some (([] : List (S37)), 0, 11))))) else (squelchref05_Get.l0 k x0 (wrap64 (x6 + 7)) y302))) else (none))) else (some (([] : List (S37)), 0, 2)))) else (none)) else (none)) else (none))
def squelchref05_Get.f (k : Nat) (a0 : ByteArray) : Option ((List (S37)) × Int × Int) := squelchref05_Get.l0 k a0 0 ([] : List (S37))
set_option maxHeartbeats 8000000 in
set_option maxRecDepth 100000 in
theorem squelchref05_Get.calls (k : Nat) (a0 : ByteArray) (r1 : List (S37)) (r2 : Int) (r3 : Int) (w : World) (h : squelchref05_Get.f k a0 = some (r1, r2, r3)) :
  Calls Tryd.prog 30 #[.string a0] w fun e w' => ∃ v0_ : Value, e = .returned (.tuple #[.agg #[v0_], .int .i64 r2, .int .i64 r3]) ∧ Kd.R k37 37 w' w.heap.size (fun _ => True) v0_ r1 ∧ Below w.heap.size w w' := by
 have hu31 := Tryd.underlying31
 have hu23 := Tryd.underlying23
 have hu37 := Tryd.underlying37
 have HB := Aside0.mk (Below.refl w.heap.size w)
 have H : (squelchref05_Get.l0 k a0 0 ([] : List (S37))) = some (r1, r2, r3) := h
 clear h
 have H' := Aside0.mk H
 clear H
 go_enter Tryd.func30, Tryd.ntmps30
 go_wp2_with (first | ((with_reducible refine gate_dst (N := 2) rfl ?_); refine box_event ?hg (N := 2) ?hd (cs := #[.slice none 0 0]) (t := 31) ?hr ?_; (case hd => rfl); (case hg => rfl); (case hr => first | (go_simp; done) | (go_simp; rfl)); intro gb294 hg w2 hbox hb; have n0_ := Aside0.mk (below_step (by repeat (first | (with_reducible first | exact HB.out | apply below_alloc | apply pw_below_drewN | apply below_drew1) | exact HB.out)) hb); have n1_ := Aside0.mk (hbox); have n2_ := Aside0.mk ((by rw [hg]; exact (below_size (by repeat (first | (with_reducible first | exact HB.out | apply below_alloc | apply pw_below_drewN | apply below_drew1) | exact HB.out))) : w.heap.size ≤ gb294)); have n3_ := Aside0.mk ((by rw [hg]; exact (below_size (by repeat (first | (with_reducible first | exact HB.out | apply below_alloc | apply pw_below_drewN | apply below_drew1) | exact HB.out))) : w.heap.size ≤ gb294)); clear HB; have HB := n0_; have BK294 := n1_; have GW294 := n2_; have GE294 := n3_; clear n0_ n1_ n2_ n3_; clear hb hbox hg) | ((with_reducible refine gate_dst (N := 5) rfl ?_); refine box_event ?hg (N := 5) ?hd (cs := #[.slice none 0 0]) (t := 31) ?hr ?_; (case hd => rfl); (case hg => rfl); (case hr => first | (go_simp; done) | (go_simp; rfl)); intro gb295 hg w3 hbox hb; have n0_ := Aside0.mk (blk_below (g := gb294) (o := .cells #[.slice none 0 0] 31 (0, 0)) (by (with_reducible repeat (first | refine blk_drewN ?_ _ | refine blk_drew ?_ | refine blk_alloc ?_ _)); exact BK294.out) hb); have n1_ := Aside0.mk (below_step (by repeat (first | (with_reducible first | exact HB.out | apply below_alloc | apply pw_below_drewN | apply below_drew1 | refine below_set ?_ GE294.out) | exact HB.out)) hb); have n2_ := Aside0.mk (hbox); have n3_ := Aside0.mk ((by rw [hg]; exact (below_size (by repeat (first | (with_reducible first | exact HB.out | apply below_alloc | apply pw_below_drewN | apply below_drew1 | refine below_set ?_ GE294.out) | exact HB.out))) : w.heap.size ≤ gb295)); have n4_ := Aside0.mk ((by rw [hg]; exact (below_size (by repeat (first | (with_reducible first | exact HB.out | apply below_alloc | apply pw_below_drewN | apply below_drew1 | refine below_set ?_ GE294.out) | exact HB.out))) : w.heap.size ≤ gb295)); have n5_ := Aside0.mk ((by rw [hg]; exact Nat.ne_of_lt (blk_lt (g := gb294) (o := .cells #[.slice none 0 0] 31 (0, 0)) (by (with_reducible repeat (first | refine blk_drewN ?_ _ | refine blk_drew ?_ | refine blk_alloc ?_ _)); exact BK294.out)) : gb294 ≠ gb295)); have n6_ := Aside0.mk ((by rw [hg]; exact Nat.ne_of_gt (blk_lt (g := gb294) (o := .cells #[.slice none 0 0] 31 (0, 0)) (by (with_reducible repeat (first | refine blk_drewN ?_ _ | refine blk_drew ?_ | refine blk_alloc ?_ _)); exact BK294.out)) : gb295 ≠ gb294)); clear BK294; clear HB; have BK294 := n0_; have HB := n1_; have BK295 := n2_; have GW295 := n3_; have GE295 := n4_; have NB294_295 := n5_; have NB295_294 := n6_; clear n0_ n1_ n2_ n3_ n4_ n5_ n6_; clear hb hbox hg; have hnb4 := NB295_294.out; have hnc4 := NB294_295.out; have hcz5_0 : w3.cell? ⟨gb295, 0, none⟩ = some (.slice none 0 0) := (blk_cell BK295.out 0).trans rfl; have hfz5_0 := blk_frozen BK295.out 0))
 go_loopg [6] k (fun kq v6 w' => ∃ (x6_1 : Int) (x296000_1 : List (S37)) (u296000 : Value), v6 = .int .i64 x6_1 ∧ Aside0 (squelchref05_Get.l0 kq a0 x6_1 x296000_1 = some (r1, r2, r3)) ∧ Aside0 (kq ≤ k) ∧ Aside0 (Kd.R k37 37 w' w.heap.size (fun _ => True) u296000 x296000_1) ∧ Aside0 (w'.heap[gb294]? = some (.cells #[(.slice none 0 0)] 31 (0, 0))) ∧ Aside0 (w'.heap[gb295]? = some (.cells #[u296000] 31 (0, 0))) ∧ Aside0 (Below w.heap.size w w'))
 case atStart => exact ⟨(0), (([] : List (S37))), (.slice none 0 0), (by first | rfl | (simp; done) | (simp [*]; done) | (simp; exact (fun l : List UInt8 => (by cases l <;> rfl : l.isEmpty = !(l != []))) _)), H', ⟨Nat.le_refl _⟩, ⟨by first | exact Kd.R_nil _ _ _ _ _ | exact Kd.N_nil _ _ _ _ _ | exact Kd.V_nil _ _ _ _ _ | exact Kd.Q_nil _ _ _ _ _ | exact Kd.S_nil _ _ _ _ _⟩, ⟨by (with_reducible repeat (first | refine blk_drewN ?_ _ | refine blk_drew ?_ | refine blk_alloc ?_ _)); refine blk_far ?_ NB294_295.out _; (with_reducible repeat (first | refine blk_drewN ?_ _ | refine blk_drew ?_ | refine blk_alloc ?_ _)); exact BK294.out⟩, ⟨by (with_reducible repeat (first | refine blk_drewN ?_ _ | refine blk_drew ?_ | refine blk_alloc ?_ _)); refine blk_put (cs := #[.slice none 0 0]) ?_ 0 _ rfl; (with_reducible repeat (first | refine blk_drewN ?_ _ | refine blk_drew ?_ | refine blk_alloc ?_ _)); exact BK295.out⟩, ⟨by repeat (first | (with_reducible first | exact HB.out | apply below_alloc | apply pw_below_drewN | apply below_drew1 | refine below_set ?_ GE294.out | refine below_set ?_ GE295.out) | exact HB.out)⟩⟩
 case round =>
  clear H'
  try clear p2
  try clear c3
  try clear c4
  try clear hcz5_0
  try clear hfz5_0
  obtain ⟨x6_1, x296000_1, u296000, rfl, HA, HK1, HO_296000, BK294, BK295, HB⟩ := hrel
  cases gk with
  | zero => exact absurd HA.out (by simp [squelchref05_Get.l0])
  | succ k1 =>
   have H := HA.out
   clear HA
   simp only [squelchref05_Get.l0] at H
   by_cases c6 : (wrap64 (x6_1 + 7)) > (a0.size : Int)
   ·rw [if_pos c6] at H
    have c6b0 : decide ((a0.size : Int) < (wrap64 (x6_1 + 7))) = true := decide_eq_true c6
    clear c6
    simp only [Option.some.injEq, Prod.mk.injEq] at H
    obtain ⟨rfl, rfl, rfl⟩ := H
    have hnb7 := NB294_295.out
    have hnc7 := NB295_294.out
    have hcz8_0 : wr.cell? ⟨gb294, 0, none⟩ = some (.slice none 0 0) := (blk_cell BK294.out 0).trans rfl
    have hfz8_0 := blk_frozen BK294.out 0
    go_wp2
    refine bodyPost_ret (results_ctt rfl _ _ gb294 31 #[.slice none 0 0] (0, 0) _ rfl (by (with_reducible repeat (first | refine blk_drewN ?_ _ | refine blk_drew ?_ | refine blk_alloc ?_ _)); refine blk_put (cs := #[.slice none 0 0]) ?_ 0 _ rfl; (with_reducible repeat (first | refine blk_drewN ?_ _ | refine blk_drew ?_ | refine blk_alloc ?_ _)); exact BK294.out) Tryd.underlying31 rfl (by kernel_rfl)) rfl ?_
    exact ⟨_, by first | rfl | (simp [errW_none, errW_some] <;> rfl) | (simp [*, errW_none, errW_some] <;> rfl), by first | exact Kd.R_nil _ _ _ _ _ | exact Kd.N_nil _ _ _ _ _ | exact Kd.V_nil _ _ _ _ _ | exact Kd.Q_nil _ _ _ _ _ | exact Kd.S_nil _ _ _ _ _, by repeat (first | (with_reducible first | exact HB.out | apply below_alloc | apply pw_below_drewN | apply below_drew1 | refine below_set ?_ GE294.out | refine below_set ?_ GE295.out) | exact HB.out)⟩
   ·rw [if_neg c6] at H
    have c6b0 : decide ((a0.size : Int) < (wrap64 (x6_1 + 7))) = false := decide_eq_false c6
    clear c6
    by_cases c9 : 0 ≤ x6_1
    ·rw [if_pos c9] at H
     have c9b0 := eq_true c9
     have c9b1 : decide (0 ≤ x6_1) = true := decide_eq_true c9
     clear c9
     by_cases c10 : x6_1 ≤ (wrap64 (x6_1 + 7))
     ·rw [if_pos c10] at H
      have c10b0 := eq_true c10
      have c10b1 : decide (x6_1 ≤ (wrap64 (x6_1 + 7))) = true := decide_eq_true c10
      by_cases c11 : (wrap64 (x6_1 + 7)) ≤ (a0.size : Int)
      ·rw [if_pos c11] at H
       have c11b0 := eq_true c11
       have c11b1 : decide ((wrap64 (x6_1 + 7)) ≤ (a0.size : Int)) = true := decide_eq_true c11
       replace H := Option.bind_eq_some_iff.mp H
       obtain ⟨⟨t296, t297, t298, t299, t300⟩, A120, H⟩ := H
       replace H : (if t300 = true then (if (x296000_1.length : Int) = 10 then (some (([] : List (S37)), 0, 11)) else (if x296000_1.length < 4398046511104 then ((some (x296000_1 ++ [(⟨(⟨t296, t297⟩ : S23), t298⟩ : S37)] : List (S37))).bind fun y302 => (if t299 = true then (if (y302.length : Int) = 1 then (some (([] : List (S37)), 0, 2)) else ((squelchref05_ordered.f k1 y302).bind fun t305 => (if t305 = true then (some (y302, wrap64 (x6_1 + 7), 0)) else (some (([] : List (S37)), 0, 11))))) else (squelchref05_Get.l0 k1 a0 (wrap64 (x6_1 + 7)) y302))) else (none))) else (some (([] : List (S37)), 0, 2))) = some (r1, r2, r3) := H
       have A12 := Aside0.mk A120
       clear A120
       by_cases c13 : t300 = true
       ·subst c13
        have H1 : (if (x296000_1.length : Int) = 10 then (some (([] : List (S37)), 0, 11)) else (if x296000_1.length < 4398046511104 then ((some (x296000_1 ++ [(⟨(⟨t296, t297⟩ : S23), t298⟩ : S37)] : List (S37))).bind fun y302 => (if t299 = true then (if (y302.length : Int) = 1 then (some (([] : List (S37)), 0, 2)) else ((squelchref05_ordered.f k1 y302).bind fun t305 => (if t305 = true then (some (y302, wrap64 (x6_1 + 7), 0)) else (some (([] : List (S37)), 0, 11))))) else (squelchref05_Get.l0 k1 a0 (wrap64 (x6_1 + 7)) y302))) else (none))) = some (r1, r2, r3) := by rw [if_pos rfl] at H; exact H
        clear H
        have H := H1
        clear H1
        by_cases c14 : (x296000_1.length : Int) = 10
        ·rw [if_pos c14] at H
         have c14b0 : ((x296000_1.length : Int) == 10) = true := beq_iff_eq.mpr c14
         have c14b1 : ((x296000_1.length : Int) != 10) = false := bne_eq_false_iff_eq.mpr c14
         clear c14
         simp only [Option.some.injEq, Prod.mk.injEq] at H
         obtain ⟨rfl, rfl, rfl⟩ := H
         go_wp2_with (first | ((with_reducible refine gate_callee (f := 55) rfl ?_); refine goesL_ (some 26) rfl rfl Tryd.func55 (by kernel_rfl) rfl #[.string (a0.extract (x6_1 : Int).toNat ((wrap64 (x6_1 + 7)) : Int).toNat)] rfl (by (try simp only [List.map_toArray, List.map_cons, List.map_nil]); first | done | rfl | (simp only [List.length_drop, List.length_take]; rfl)) ?_; (with_reducible refine (squelchref04_Get.calls k1 (a0.extract (x6_1 : Int).toNat ((wrap64 (x6_1 + 7)) : Int).toNat) t296 t297 t298 t299 true _ A12.out).mono ?_); rintro e w15 ⟨rfl, hb⟩; refine ⟨_, rfl, ?_⟩; have n0_ := Aside0.mk (Kd.R_below (by (with_reducible repeat (first | apply Kd.R_alloc | apply Kd.R_drewN | apply Kd.R_drew)); exact HO_296000.out) hb); have n1_ := Aside0.mk (blk_below (g := gb294) (o := .cells #[.slice none 0 0] 31 (0, 0)) (by (with_reducible repeat (first | refine blk_drewN ?_ _ | refine blk_drew ?_ | refine blk_alloc ?_ _)); exact BK294.out) hb); have n2_ := Aside0.mk (blk_below (g := gb295) (o := .cells #[u296000] 31 (0, 0)) (by (with_reducible repeat (first | refine blk_drewN ?_ _ | refine blk_drew ?_ | refine blk_alloc ?_ _)); exact BK295.out) hb); have n3_ := Aside0.mk (below_step (by repeat (first | (with_reducible first | exact HB.out | apply below_alloc | apply pw_below_drewN | apply below_drew1 | refine below_set ?_ GE294.out | refine below_set ?_ GE295.out) | exact HB.out)) hb); clear HO_296000; clear BK294; clear BK295; clear HB; have HO_296000 := n0_; have BK294 := n1_; have BK295 := n2_; have HB := n3_; clear n0_ n1_ n2_ n3_; (try clear hb); (try clear hb2); (try clear hk); (try clear hi)) | ((with_reducible refine gate_dst (N := 7) rfl ?_); refine box_event ?hg (N := 7) ?hd (cs := #[.string (⟨#[]⟩ : ByteArray), .int .i64 0]) (t := 23) ?hr ?_; (case hd => rfl); (case hg => rfl); (case hr => first | (go_simp; done) | (go_simp; rfl)); intro gb301 hg w16 hbox hb; have n0_ := Aside0.mk (Kd.R_below (by (with_reducible repeat (first | apply Kd.R_alloc | apply Kd.R_drewN | apply Kd.R_drew)); exact HO_296000.out) hb); have n1_ := Aside0.mk (blk_below (g := gb294) (o := .cells #[.slice none 0 0] 31 (0, 0)) (by (with_reducible repeat (first | refine blk_drewN ?_ _ | refine blk_drew ?_ | refine blk_alloc ?_ _)); exact BK294.out) hb); have n2_ := Aside0.mk (blk_below (g := gb295) (o := .cells #[u296000] 31 (0, 0)) (by (with_reducible repeat (first | refine blk_drewN ?_ _ | refine blk_drew ?_ | refine blk_alloc ?_ _)); exact BK295.out) hb); have n3_ := Aside0.mk (below_step (by repeat (first | (with_reducible first | exact HB.out | apply below_alloc | apply pw_below_drewN | apply below_drew1 | refine below_set ?_ GE294.out | refine below_set ?_ GE295.out) | exact HB.out)) hb); have n4_ := Aside0.mk (hbox); have n5_ := Aside0.mk ((by rw [hg]; exact (below_size (by repeat (first | (with_reducible first | exact HB.out | apply below_alloc | apply pw_below_drewN | apply below_drew1 | refine below_set ?_ GE294.out | refine below_set ?_ GE295.out) | exact HB.out))) : w.heap.size ≤ gb301)); have n6_ := Aside0.mk ((by rw [hg]; exact (below_size (by repeat (first | (with_reducible first | exact HB.out | apply below_alloc | apply pw_below_drewN | apply below_drew1 | refine below_set ?_ GE294.out | refine below_set ?_ GE295.out) | exact HB.out))) : w.heap.size ≤ gb301)); have n7_ := Aside0.mk ((by rw [hg]; exact Nat.ne_of_lt (blk_lt (g := gb294) (o := .cells #[.slice none 0 0] 31 (0, 0)) (by (with_reducible repeat (first | refine blk_drewN ?_ _ | refine blk_drew ?_ | refine blk_alloc ?_ _)); exact BK294.out)) : gb294 ≠ gb301)); have n8_ := Aside0.mk ((by rw [hg]; exact Nat.ne_of_gt (blk_lt (g := gb294) (o := .cells #[.slice none 0 0] 31 (0, 0)) (by (with_reducible repeat (first | refine blk_drewN ?_ _ | refine blk_drew ?_ | refine blk_alloc ?_ _)); exact BK294.out)) : gb301 ≠ gb294)); have n9_ := Aside0.mk ((by rw [hg]; exact Nat.ne_of_lt (blk_lt (g := gb295) (o := .cells #[u296000] 31 (0, 0)) (by (with_reducible repeat (first | refine blk_drewN ?_ _ | refine blk_drew ?_ | refine blk_alloc ?_ _)); exact BK295.out)) : gb295 ≠ gb301)); have n10_ := Aside0.mk ((by rw [hg]; exact Nat.ne_of_gt (blk_lt (g := gb295) (o := .cells #[u296000] 31 (0, 0)) (by (with_reducible repeat (first | refine blk_drewN ?_ _ | refine blk_drew ?_ | refine blk_alloc ?_ _)); exact BK295.out)) : gb301 ≠ gb295)); clear HO_296000; clear BK294; clear BK295; clear HB; have HO_296000 := n0_; have BK294 := n1_; have BK295 := n2_; have HB := n3_; have BK301 := n4_; have GW301 := n5_; have GE301 := n6_; have NB294_301 := n7_; have NB301_294 := n8_; have NB295_301 := n9_; have NB301_295 := n10_; clear n0_ n1_ n2_ n3_ n4_ n5_ n6_ n7_ n8_ n9_ n10_; clear hb hbox hg; have hnb17 := NB301_294.out; have hnc17 := NB294_301.out; have hnb18 := NB301_295.out; have hnc18 := NB295_301.out; have hcz19_0 : w16.cell? ⟨gb301, 0, none⟩ = some (.string (⟨#[]⟩ : ByteArray)) := (blk_cell BK301.out 0).trans rfl; have hcz19_1 : w16.cell? ⟨gb301, 1, none⟩ = some (.int .i64 0) := (blk_cell BK301.out 1).trans rfl; have hfz19_0 := blk_frozen BK301.out 0; have hfz19_1 := blk_frozen BK301.out 1; have hnb20 := NB295_294.out; have hnc20 := NB294_295.out; have hcz21_0 : w16.cell? ⟨gb295, 0, none⟩ = some (u296000) := (blk_cell BK295.out 0).trans rfl; have hfz21_0 := blk_frozen BK295.out 0; obtain ⟨Ao22, co22, eo22⟩ := Kd.R_slice HO_296000.out; subst eo22; have hcz23_0 : w16.cell? ⟨gb294, 0, none⟩ = some (.slice none 0 0) := (blk_cell BK294.out 0).trans rfl; have hfz23_0 := blk_frozen BK294.out 0))
         refine bodyPost_ret (results_ctt rfl _ _ gb294 31 #[.slice none 0 0] (0, 0) _ rfl (by (with_reducible repeat (first | refine blk_drewN ?_ _ | refine blk_drew ?_ | refine blk_alloc ?_ _)); refine blk_put (cs := #[.slice none 0 0]) ?_ 0 _ rfl; (with_reducible repeat (first | refine blk_drewN ?_ _ | refine blk_drew ?_ | refine blk_alloc ?_ _)); refine blk_far ?_ NB294_301.out _; (with_reducible repeat (first | refine blk_drewN ?_ _ | refine blk_drew ?_ | refine blk_alloc ?_ _)); refine blk_far ?_ NB294_301.out _; (with_reducible repeat (first | refine blk_drewN ?_ _ | refine blk_drew ?_ | refine blk_alloc ?_ _)); exact BK294.out) Tryd.underlying31 rfl (by kernel_rfl)) rfl ?_
         exact ⟨_, by first | rfl | (simp [errW_none, errW_some] <;> rfl) | (simp [*, errW_none, errW_some] <;> rfl), by first | exact Kd.R_nil _ _ _ _ _ | exact Kd.N_nil _ _ _ _ _ | exact Kd.V_nil _ _ _ _ _ | exact Kd.Q_nil _ _ _ _ _ | exact Kd.S_nil _ _ _ _ _, by repeat (first | (with_reducible first | exact HB.out | apply below_alloc | apply pw_below_drewN | apply below_drew1 | refine below_set ?_ GE294.out | refine below_set ?_ GE295.out | refine below_set ?_ GE301.out) | exact HB.out)⟩
        ·rw [if_neg c14] at H
         have c14b0 : ((x296000_1.length : Int) == 10) = false := beq_eq_false_iff_ne.mpr c14
         have c14b1 : ((x296000_1.length : Int) != 10) = true := bne_iff_ne.mpr c14
         by_cases c24 : x296000_1.length < 4398046511104
         ·rw [if_pos c24] at H
          have LMc24 := Aside0.mk c24
          clear c24
          obtain ⟨y302, hy302⟩ : ∃ y_ : List (S37), y_ = (x296000_1 ++ [(⟨(⟨t296, t297⟩ : S23), t298⟩ : S37)]) := ⟨_, rfl⟩
          replace H : (if t299 = true then (if (y302.length : Int) = 1 then (some (([] : List (S37)), 0, 2)) else ((squelchref05_ordered.f k1 y302).bind fun t305 => (if t305 = true then (some (y302, wrap64 (x6_1 + 7), 0)) else (some (([] : List (S37)), 0, 11))))) else (squelchref05_Get.l0 k1 a0 (wrap64 (x6_1 + 7)) y302)) = some (r1, r2, r3) := by first | (rw [hy302]; with_reducible exact H) | (have H2_ := (Option.bind_some _ _).symm.trans H; rw [hy302]; with_reducible exact H2_) | (have H2_ := (Option.bind_some _ _).symm.trans H; with_reducible exact H2_) | with_reducible exact H | (rw [hy302]; exact H) | exact H
          have Ny302 := Aside0.mk hy302
          clear hy302
          by_cases c25 : t299 = true
          ·subst c25
           have H1 : (if (y302.length : Int) = 1 then (some (([] : List (S37)), 0, 2)) else ((squelchref05_ordered.f k1 y302).bind fun t305 => (if t305 = true then (some (y302, wrap64 (x6_1 + 7), 0)) else (some (([] : List (S37)), 0, 11))))) = some (r1, r2, r3) := by rw [if_pos rfl] at H; exact H
           clear H
           have H := H1
           clear H1
           by_cases c26 : (y302.length : Int) = 1
           ·rw [if_pos c26] at H
            have c26b0 : ((y302.length : Int) == 1) = true := beq_iff_eq.mpr c26
            have c26b1 : ((y302.length : Int) != 1) = false := bne_eq_false_iff_eq.mpr c26
            clear c26
            simp only [Option.some.injEq, Prod.mk.injEq] at H
            obtain ⟨rfl, rfl, rfl⟩ := H
            go_wp2_with (first | ((with_reducible refine gate_callee (f := 55) rfl ?_); refine goesL_ (some 26) rfl rfl Tryd.func55 (by kernel_rfl) rfl #[.string (a0.extract (x6_1 : Int).toNat ((wrap64 (x6_1 + 7)) : Int).toNat)] rfl (by (try simp only [List.map_toArray, List.map_cons, List.map_nil]); first | done | rfl | (simp only [List.length_drop, List.length_take]; rfl)) ?_; (with_reducible refine (squelchref04_Get.calls k1 (a0.extract (x6_1 : Int).toNat ((wrap64 (x6_1 + 7)) : Int).toNat) t296 t297 t298 true true _ A12.out).mono ?_); rintro e w27 ⟨rfl, hb⟩; refine ⟨_, rfl, ?_⟩; have n0_ := Aside0.mk (Kd.R_below (by (with_reducible repeat (first | apply Kd.R_alloc | apply Kd.R_drewN | apply Kd.R_drew)); exact HO_296000.out) hb); have n1_ := Aside0.mk (blk_below (g := gb294) (o := .cells #[.slice none 0 0] 31 (0, 0)) (by (with_reducible repeat (first | refine blk_drewN ?_ _ | refine blk_drew ?_ | refine blk_alloc ?_ _)); exact BK294.out) hb); have n2_ := Aside0.mk (blk_below (g := gb295) (o := .cells #[u296000] 31 (0, 0)) (by (with_reducible repeat (first | refine blk_drewN ?_ _ | refine blk_drew ?_ | refine blk_alloc ?_ _)); exact BK295.out) hb); have n3_ := Aside0.mk (below_step (by repeat (first | (with_reducible first | exact HB.out | apply below_alloc | apply pw_below_drewN | apply below_drew1 | refine below_set ?_ GE294.out | refine below_set ?_ GE295.out) | exact HB.out)) hb); clear HO_296000; clear BK294; clear BK295; clear HB; have HO_296000 := n0_; have BK294 := n1_; have BK295 := n2_; have HB := n3_; clear n0_ n1_ n2_ n3_; (try clear hb); (try clear hb2); (try clear hk); (try clear hi)) | ((with_reducible refine gate_dst (N := 7) rfl ?_); refine box_event ?hg (N := 7) ?hd (cs := #[.string (⟨#[]⟩ : ByteArray), .int .i64 0]) (t := 23) ?hr ?_; (case hd => rfl); (case hg => rfl); (case hr => first | (go_simp; done) | (go_simp; rfl)); intro gb301 hg w28 hbox hb; have n0_ := Aside0.mk (Kd.R_below (by (with_reducible repeat (first | apply Kd.R_alloc | apply Kd.R_drewN | apply Kd.R_drew)); exact HO_296000.out) hb); have n1_ := Aside0.mk (blk_below (g := gb294) (o := .cells #[.slice none 0 0] 31 (0, 0)) (by (with_reducible repeat (first | refine blk_drewN ?_ _ | refine blk_drew ?_ | refine blk_alloc ?_ _)); exact BK294.out) hb); have n2_ := Aside0.mk (blk_below (g := gb295) (o := .cells #[u296000] 31 (0, 0)) (by (with_reducible repeat (first | refine blk_drewN ?_ _ | refine blk_drew ?_ | refine blk_alloc ?_ _)); exact BK295.out) hb); have n3_ := Aside0.mk (below_step (by repeat (first | (with_reducible first | exact HB.out | apply below_alloc | apply pw_below_drewN | apply below_drew1 | refine below_set ?_ GE294.out | refine below_set ?_ GE295.out) | exact HB.out)) hb); have n4_ := Aside0.mk (hbox); have n5_ := Aside0.mk ((by rw [hg]; exact (below_size (by repeat (first | (with_reducible first | exact HB.out | apply below_alloc | apply pw_below_drewN | apply below_drew1 | refine below_set ?_ GE294.out | refine below_set ?_ GE295.out) | exact HB.out))) : w.heap.size ≤ gb301)); have n6_ := Aside0.mk ((by rw [hg]; exact (below_size (by repeat (first | (with_reducible first | exact HB.out | apply below_alloc | apply pw_below_drewN | apply below_drew1 | refine below_set ?_ GE294.out | refine below_set ?_ GE295.out) | exact HB.out))) : w.heap.size ≤ gb301)); have n7_ := Aside0.mk ((by rw [hg]; exact Nat.ne_of_lt (blk_lt (g := gb294) (o := .cells #[.slice none 0 0] 31 (0, 0)) (by (with_reducible repeat (first | refine blk_drewN ?_ _ | refine blk_drew ?_ | refine blk_alloc ?_ _)); exact BK294.out)) : gb294 ≠ gb301)); have n8_ := Aside0.mk ((by rw [hg]; exact Nat.ne_of_gt (blk_lt (g := gb294) (o := .cells #[.slice none 0 0] 31 (0, 0)) (by (with_reducible repeat (first | refine blk_drewN ?_ _ | refine blk_drew ?_ | refine blk_alloc ?_ _)); exact BK294.out)) : gb301 ≠ gb294)); have n9_ := Aside0.mk ((by rw [hg]; exact Nat.ne_of_lt (blk_lt (g := gb295) (o := .cells #[u296000] 31 (0, 0)) (by (with_reducible repeat (first | refine blk_drewN ?_ _ | refine blk_drew ?_ | refine blk_alloc ?_ _)); exact BK295.out)) : gb295 ≠ gb301)); have n10_ := Aside0.mk ((by rw [hg]; exact Nat.ne_of_gt (blk_lt (g := gb295) (o := .cells #[u296000] 31 (0, 0)) (by (with_reducible repeat (first | refine blk_drewN ?_ _ | refine blk_drew ?_ | refine blk_alloc ?_ _)); exact BK295.out)) : gb301 ≠ gb295)); clear HO_296000; clear BK294; clear BK295; clear HB; have HO_296000 := n0_; have BK294 := n1_; have BK295 := n2_; have HB := n3_; have BK301 := n4_; have GW301 := n5_; have GE301 := n6_; have NB294_301 := n7_; have NB301_294 := n8_; have NB295_301 := n9_; have NB301_295 := n10_; clear n0_ n1_ n2_ n3_ n4_ n5_ n6_ n7_ n8_ n9_ n10_; clear hb hbox hg; have hnb29 := NB301_294.out; have hnc29 := NB294_301.out; have hnb30 := NB301_295.out; have hnc30 := NB295_301.out; have hcz31_0 : w28.cell? ⟨gb301, 0, none⟩ = some (.string (⟨#[]⟩ : ByteArray)) := (blk_cell BK301.out 0).trans rfl; have hcz31_1 : w28.cell? ⟨gb301, 1, none⟩ = some (.int .i64 0) := (blk_cell BK301.out 1).trans rfl; have hfz31_0 := blk_frozen BK301.out 0; have hfz31_1 := blk_frozen BK301.out 1; have hnb32 := NB295_294.out; have hnc32 := NB294_295.out; have hcz33_0 : w28.cell? ⟨gb295, 0, none⟩ = some (u296000) := (blk_cell BK295.out 0).trans rfl; have hfz33_0 := blk_frozen BK295.out 0; obtain ⟨Ao34, co34, eo34⟩ := Kd.R_slice HO_296000.out; subst eo34) | ((with_reducible refine gate_builtin (b := .append) (xs := #[.tmp 40, .tmp 44]) rfl ?_); at_builtin; refine Kd.R_append k37 (w0 := w) w.heap.size rfl (.tmp 40) (.tmp 44) 29 37 (.agg #[(.string ⟨#[]⟩), (.int .i64 0), (.bool false)]) 32 rfl Tryd.underlying29 info37 rfl (by decide) (by omega) (.slice Ao34 x296000_1.length co34) x296000_1 (⟨(⟨t296, t297⟩ : S23), t298⟩ : S37) [.string t296, .int .i64 t297, .bool t298] (fun _ => True) (fun _ => False) rfl (by first | (go_simp; done) | (go_simp; rfl)) ?aP (fun _ hk => hk.elim) ?aF ?aO ?aB ?aS ?aL ?_; (case aP => exact k37_mkM _ _ _ (⟨(⟨t296, t297⟩ : S23), t298⟩ : S37)); (case aB => exact (by repeat (first | (with_reducible first | exact HB.out | apply below_alloc | apply pw_below_drewN | apply below_drew1 | refine below_set ?_ GE294.out | refine below_set ?_ GE295.out | refine below_set ?_ GE301.out) | exact HB.out))); (case aF => exact (fun _ _ => trivial)); (case aO => exact (by (with_reducible repeat (first | apply Kd.R_alloc | apply Kd.R_drewN | apply Kd.R_drew)); exact Kd.R_mono (Kd.R_far (p := ⟨gb301, 1, none⟩) (Kd.R_far (p := ⟨gb301, 0, none⟩) (Kd.R_types HO_296000.out BK301.out (by decide)) (fun _ hk => hk.2) (.string t296)) (fun _ hk => hk.2) (.int .i64 t297)) (fun _ hk => trivial))); (case aS => exact (below_size (by repeat (first | (with_reducible first | exact HB.out | apply below_alloc | apply pw_below_drewN | apply below_drew1 | refine below_set ?_ GE294.out | refine below_set ?_ GE295.out | refine below_set ?_ GE301.out) | exact HB.out)))); (case aL => have := LMc24.out; omega); intro v303 w35 ho hb hg hat; rw [← Ny302.out] at ho; have n0_ := Aside0.mk (blk_grown (g := gb294) (o := .cells #[.slice none 0 0] 31 (0, 0)) (by (with_reducible repeat (first | refine blk_drewN ?_ _ | refine blk_drew ?_ | refine blk_alloc ?_ _)); refine blk_far ?_ NB294_301.out _; (with_reducible repeat (first | refine blk_drewN ?_ _ | refine blk_drew ?_ | refine blk_alloc ?_ _)); refine blk_far ?_ NB294_301.out _; (with_reducible repeat (first | refine blk_drewN ?_ _ | refine blk_drew ?_ | refine blk_alloc ?_ _)); exact BK294.out) hg (Kd.R_ne HO_296000.out BK294.out (by decide))); have n1_ := Aside0.mk (blk_grown (g := gb295) (o := .cells #[.slice Ao34 x296000_1.length co34] 31 (0, 0)) (by (with_reducible repeat (first | refine blk_drewN ?_ _ | refine blk_drew ?_ | refine blk_alloc ?_ _)); refine blk_far ?_ NB295_301.out _; (with_reducible repeat (first | refine blk_drewN ?_ _ | refine blk_drew ?_ | refine blk_alloc ?_ _)); refine blk_far ?_ NB295_301.out _; (with_reducible repeat (first | refine blk_drewN ?_ _ | refine blk_drew ?_ | refine blk_alloc ?_ _)); exact BK295.out) hg (Kd.R_ne HO_296000.out BK295.out (by decide))); have n2_ := Aside0.mk (blk_grown (g := gb301) (o := .cells #[.string t296, .int .i64 t297] 23 (0, 0)) (by (with_reducible repeat (first | refine blk_drewN ?_ _ | refine blk_drew ?_ | refine blk_alloc ?_ _)); refine blk_put (cs := #[.string t296, .int .i64 0]) ?_ 1 _ rfl; (with_reducible repeat (first | refine blk_drewN ?_ _ | refine blk_drew ?_ | refine blk_alloc ?_ _)); refine blk_put (cs := #[.string (⟨#[]⟩ : ByteArray), .int .i64 0]) ?_ 0 _ rfl; (with_reducible repeat (first | refine blk_drewN ?_ _ | refine blk_drew ?_ | refine blk_alloc ?_ _)); exact BK301.out) hg (Kd.R_ne HO_296000.out BK301.out (by decide))); have n3_ := Aside0.mk (hb); have n4_ := Aside0.mk (ho); clear BK294; clear BK295; clear BK301; clear HB; clear HO_296000; have BK294 := n0_; have BK295 := n1_; have BK301 := n2_; have HB := n3_; have HO304 := n4_; clear n0_ n1_ n2_ n3_ n4_; clear ho hb hg hat; obtain ⟨Ao36, co36, eo36⟩ := Kd.R_slice HO304.out; subst eo36; have hcz37_0 : w35.cell? ⟨gb295, 0, none⟩ = some (.slice Ao34 x296000_1.length co34) := (blk_cell BK295.out 0).trans rfl; have hfz37_0 := blk_frozen BK295.out 0; have hcz38_0 : w35.cell? ⟨gb294, 0, none⟩ = some (.slice none 0 0) := (blk_cell BK294.out 0).trans rfl; have hfz38_0 := blk_frozen BK294.out 0))
            refine bodyPost_ret (results_ctt rfl _ _ gb294 31 #[.slice none 0 0] (0, 0) _ rfl (by (with_reducible repeat (first | refine blk_drewN ?_ _ | refine blk_drew ?_ | refine blk_alloc ?_ _)); refine blk_put (cs := #[.slice none 0 0]) ?_ 0 _ rfl; (with_reducible repeat (first | refine blk_drewN ?_ _ | refine blk_drew ?_ | refine blk_alloc ?_ _)); refine blk_far ?_ NB294_295.out _; (with_reducible repeat (first | refine blk_drewN ?_ _ | refine blk_drew ?_ | refine blk_alloc ?_ _)); exact BK294.out) Tryd.underlying31 rfl (by kernel_rfl)) rfl ?_
            exact ⟨_, by first | rfl | (simp [errW_none, errW_some] <;> rfl) | (simp [*, errW_none, errW_some] <;> rfl), by first | exact Kd.R_nil _ _ _ _ _ | exact Kd.N_nil _ _ _ _ _ | exact Kd.V_nil _ _ _ _ _ | exact Kd.Q_nil _ _ _ _ _ | exact Kd.S_nil _ _ _ _ _, by repeat (first | (with_reducible first | exact HB.out | apply below_alloc | apply pw_below_drewN | apply below_drew1 | refine below_set ?_ GE294.out | refine below_set ?_ GE295.out | refine below_set ?_ GE301.out) | exact HB.out)⟩
           ·rw [if_neg c26] at H
            have c26b0 : ((y302.length : Int) == 1) = false := beq_eq_false_iff_ne.mpr c26
            have c26b1 : ((y302.length : Int) != 1) = true := bne_iff_ne.mpr c26
            replace H := Option.bind_eq_some_iff.mp H
            obtain ⟨t305, A390, H⟩ := H
            replace H : (if t305 = true then (some (y302, wrap64 (x6_1 + 7), 0)) else (some (([] : List (S37)), 0, 11))) = some (r1, r2, r3) := H
            have A39 := Aside0.mk A390
            clear A390
            by_cases c40 : t305 = true
            ·subst c40
             have H1 : (some (y302, wrap64 (x6_1 + 7), 0)) = some (r1, r2, r3) := by rw [if_pos rfl] at H; exact H
             clear H
             have H := H1
             clear H1
             simp only [Option.some.injEq, Prod.mk.injEq] at H
             obtain ⟨rfl, rfl, rfl⟩ := H
             go_wp2_with (first | ((with_reducible refine gate_callee (f := 55) rfl ?_); refine goesL_ (some 26) rfl rfl Tryd.func55 (by kernel_rfl) rfl #[.string (a0.extract (x6_1 : Int).toNat ((wrap64 (x6_1 + 7)) : Int).toNat)] rfl (by (try simp only [List.map_toArray, List.map_cons, List.map_nil]); first | done | rfl | (simp only [List.length_drop, List.length_take]; rfl)) ?_; (with_reducible refine (squelchref04_Get.calls k1 (a0.extract (x6_1 : Int).toNat ((wrap64 (x6_1 + 7)) : Int).toNat) t296 t297 t298 true true _ A12.out).mono ?_); rintro e w41 ⟨rfl, hb⟩; refine ⟨_, rfl, ?_⟩; have n0_ := Aside0.mk (Kd.R_below (by (with_reducible repeat (first | apply Kd.R_alloc | apply Kd.R_drewN | apply Kd.R_drew)); exact HO_296000.out) hb); have n1_ := Aside0.mk (blk_below (g := gb294) (o := .cells #[.slice none 0 0] 31 (0, 0)) (by (with_reducible repeat (first | refine blk_drewN ?_ _ | refine blk_drew ?_ | refine blk_alloc ?_ _)); exact BK294.out) hb); have n2_ := Aside0.mk (blk_below (g := gb295) (o := .cells #[u296000] 31 (0, 0)) (by (with_reducible repeat (first | refine blk_drewN ?_ _ | refine blk_drew ?_ | refine blk_alloc ?_ _)); exact BK295.out) hb); have n3_ := Aside0.mk (below_step (by repeat (first | (with_reducible first | exact HB.out | apply below_alloc | apply pw_below_drewN | apply below_drew1 | refine below_set ?_ GE294.out | refine below_set ?_ GE295.out) | exact HB.out)) hb); clear HO_296000; clear BK294; clear BK295; clear HB; have HO_296000 := n0_; have BK294 := n1_; have BK295 := n2_; have HB := n3_; clear n0_ n1_ n2_ n3_; (try clear hb); (try clear hb2); (try clear hk); (try clear hi)) | ((with_reducible refine gate_dst (N := 7) rfl ?_); refine box_event ?hg (N := 7) ?hd (cs := #[.string (⟨#[]⟩ : ByteArray), .int .i64 0]) (t := 23) ?hr ?_; (case hd => rfl); (case hg => rfl); (case hr => first | (go_simp; done) | (go_simp; rfl)); intro gb301 hg w42 hbox hb; have n0_ := Aside0.mk (Kd.R_below (by (with_reducible repeat (first | apply Kd.R_alloc | apply Kd.R_drewN | apply Kd.R_drew)); exact HO_296000.out) hb); have n1_ := Aside0.mk (blk_below (g := gb294) (o := .cells #[.slice none 0 0] 31 (0, 0)) (by (with_reducible repeat (first | refine blk_drewN ?_ _ | refine blk_drew ?_ | refine blk_alloc ?_ _)); exact BK294.out) hb); have n2_ := Aside0.mk (blk_below (g := gb295) (o := .cells #[u296000] 31 (0, 0)) (by (with_reducible repeat (first | refine blk_drewN ?_ _ | refine blk_drew ?_ | refine blk_alloc ?_ _)); exact BK295.out) hb); have n3_ := Aside0.mk (below_step (by repeat (first | (with_reducible first | exact HB.out | apply below_alloc | apply pw_below_drewN | apply below_drew1 | refine below_set ?_ GE294.out | refine below_set ?_ GE295.out) | exact HB.out)) hb); have n4_ := Aside0.mk (hbox); have n5_ := Aside0.mk ((by rw [hg]; exact (below_size (by repeat (first | (with_reducible first | exact HB.out | apply below_alloc | apply pw_below_drewN | apply below_drew1 | refine below_set ?_ GE294.out | refine below_set ?_ GE295.out) | exact HB.out))) : w.heap.size ≤ gb301)); have n6_ := Aside0.mk ((by rw [hg]; exact (below_size (by repeat (first | (with_reducible first | exact HB.out | apply below_alloc | apply pw_below_drewN | apply below_drew1 | refine below_set ?_ GE294.out | refine below_set ?_ GE295.out) | exact HB.out))) : w.heap.size ≤ gb301)); have n7_ := Aside0.mk ((by rw [hg]; exact Nat.ne_of_lt (blk_lt (g := gb294) (o := .cells #[.slice none 0 0] 31 (0, 0)) (by (with_reducible repeat (first | refine blk_drewN ?_ _ | refine blk_drew ?_ | refine blk_alloc ?_ _)); exact BK294.out)) : gb294 ≠ gb301)); have n8_ := Aside0.mk ((by rw [hg]; exact Nat.ne_of_gt (blk_lt (g := gb294) (o := .cells #[.slice none 0 0] 31 (0, 0)) (by (with_reducible repeat (first | refine blk_drewN ?_ _ | refine blk_drew ?_ | refine blk_alloc ?_ _)); exact BK294.out)) : gb301 ≠ gb294)); have n9_ := Aside0.mk ((by rw [hg]; exact Nat.ne_of_lt (blk_lt (g := gb295) (o := .cells #[u296000] 31 (0, 0)) (by (with_reducible repeat (first | refine blk_drewN ?_ _ | refine blk_drew ?_ | refine blk_alloc ?_ _)); exact BK295.out)) : gb295 ≠ gb301)); have n10_ := Aside0.mk ((by rw [hg]; exact Nat.ne_of_gt (blk_lt (g := gb295) (o := .cells #[u296000] 31 (0, 0)) (by (with_reducible repeat (first | refine blk_drewN ?_ _ | refine blk_drew ?_ | refine blk_alloc ?_ _)); exact BK295.out)) : gb301 ≠ gb295)); clear HO_296000; clear BK294; clear BK295; clear HB; have HO_296000 := n0_; have BK294 := n1_; have BK295 := n2_; have HB := n3_; have BK301 := n4_; have GW301 := n5_; have GE301 := n6_; have NB294_301 := n7_; have NB301_294 := n8_; have NB295_301 := n9_; have NB301_295 := n10_; clear n0_ n1_ n2_ n3_ n4_ n5_ n6_ n7_ n8_ n9_ n10_; clear hb hbox hg; have hnb43 := NB301_294.out; have hnc43 := NB294_301.out; have hnb44 := NB301_295.out; have hnc44 := NB295_301.out; have hcz45_0 : w42.cell? ⟨gb301, 0, none⟩ = some (.string (⟨#[]⟩ : ByteArray)) := (blk_cell BK301.out 0).trans rfl; have hcz45_1 : w42.cell? ⟨gb301, 1, none⟩ = some (.int .i64 0) := (blk_cell BK301.out 1).trans rfl; have hfz45_0 := blk_frozen BK301.out 0; have hfz45_1 := blk_frozen BK301.out 1; have hnb46 := NB295_294.out; have hnc46 := NB294_295.out; have hcz47_0 : w42.cell? ⟨gb295, 0, none⟩ = some (u296000) := (blk_cell BK295.out 0).trans rfl; have hfz47_0 := blk_frozen BK295.out 0; obtain ⟨Ao48, co48, eo48⟩ := Kd.R_slice HO_296000.out; subst eo48) | ((with_reducible refine gate_builtin (b := .append) (xs := #[.tmp 40, .tmp 44]) rfl ?_); at_builtin; refine Kd.R_append k37 (w0 := w) w.heap.size rfl (.tmp 40) (.tmp 44) 29 37 (.agg #[(.string ⟨#[]⟩), (.int .i64 0), (.bool false)]) 32 rfl Tryd.underlying29 info37 rfl (by decide) (by omega) (.slice Ao48 x296000_1.length co48) x296000_1 (⟨(⟨t296, t297⟩ : S23), t298⟩ : S37) [.string t296, .int .i64 t297, .bool t298] (fun _ => True) (fun _ => False) rfl (by first | (go_simp; done) | (go_simp; rfl)) ?aP (fun _ hk => hk.elim) ?aF ?aO ?aB ?aS ?aL ?_; (case aP => exact k37_mkM _ _ _ (⟨(⟨t296, t297⟩ : S23), t298⟩ : S37)); (case aB => exact (by repeat (first | (with_reducible first | exact HB.out | apply below_alloc | apply pw_below_drewN | apply below_drew1 | refine below_set ?_ GE294.out | refine below_set ?_ GE295.out | refine below_set ?_ GE301.out) | exact HB.out))); (case aF => exact (fun _ _ => trivial)); (case aO => exact (by (with_reducible repeat (first | apply Kd.R_alloc | apply Kd.R_drewN | apply Kd.R_drew)); exact Kd.R_mono (Kd.R_far (p := ⟨gb301, 1, none⟩) (Kd.R_far (p := ⟨gb301, 0, none⟩) (Kd.R_types HO_296000.out BK301.out (by decide)) (fun _ hk => hk.2) (.string t296)) (fun _ hk => hk.2) (.int .i64 t297)) (fun _ hk => trivial))); (case aS => exact (below_size (by repeat (first | (with_reducible first | exact HB.out | apply below_alloc | apply pw_below_drewN | apply below_drew1 | refine below_set ?_ GE294.out | refine below_set ?_ GE295.out | refine below_set ?_ GE301.out) | exact HB.out)))); (case aL => have := LMc24.out; omega); intro v303 w49 ho hb hg hat; rw [← Ny302.out] at ho; have n0_ := Aside0.mk (blk_grown (g := gb294) (o := .cells #[.slice none 0 0] 31 (0, 0)) (by (with_reducible repeat (first | refine blk_drewN ?_ _ | refine blk_drew ?_ | refine blk_alloc ?_ _)); refine blk_far ?_ NB294_301.out _; (with_reducible repeat (first | refine blk_drewN ?_ _ | refine blk_drew ?_ | refine blk_alloc ?_ _)); refine blk_far ?_ NB294_301.out _; (with_reducible repeat (first | refine blk_drewN ?_ _ | refine blk_drew ?_ | refine blk_alloc ?_ _)); exact BK294.out) hg (Kd.R_ne HO_296000.out BK294.out (by decide))); have n1_ := Aside0.mk (blk_grown (g := gb295) (o := .cells #[.slice Ao48 x296000_1.length co48] 31 (0, 0)) (by (with_reducible repeat (first | refine blk_drewN ?_ _ | refine blk_drew ?_ | refine blk_alloc ?_ _)); refine blk_far ?_ NB295_301.out _; (with_reducible repeat (first | refine blk_drewN ?_ _ | refine blk_drew ?_ | refine blk_alloc ?_ _)); refine blk_far ?_ NB295_301.out _; (with_reducible repeat (first | refine blk_drewN ?_ _ | refine blk_drew ?_ | refine blk_alloc ?_ _)); exact BK295.out) hg (Kd.R_ne HO_296000.out BK295.out (by decide))); have n2_ := Aside0.mk (blk_grown (g := gb301) (o := .cells #[.string t296, .int .i64 t297] 23 (0, 0)) (by (with_reducible repeat (first | refine blk_drewN ?_ _ | refine blk_drew ?_ | refine blk_alloc ?_ _)); refine blk_put (cs := #[.string t296, .int .i64 0]) ?_ 1 _ rfl; (with_reducible repeat (first | refine blk_drewN ?_ _ | refine blk_drew ?_ | refine blk_alloc ?_ _)); refine blk_put (cs := #[.string (⟨#[]⟩ : ByteArray), .int .i64 0]) ?_ 0 _ rfl; (with_reducible repeat (first | refine blk_drewN ?_ _ | refine blk_drew ?_ | refine blk_alloc ?_ _)); exact BK301.out) hg (Kd.R_ne HO_296000.out BK301.out (by decide))); have n3_ := Aside0.mk (hb); have n4_ := Aside0.mk (ho); clear BK294; clear BK295; clear BK301; clear HB; clear HO_296000; have BK294 := n0_; have BK295 := n1_; have BK301 := n2_; have HB := n3_; have HO304 := n4_; clear n0_ n1_ n2_ n3_ n4_; clear ho hb hg hat; obtain ⟨Ao50, co50, eo50⟩ := Kd.R_slice HO304.out; subst eo50; have hcz51_0 : w49.cell? ⟨gb295, 0, none⟩ = some (.slice Ao48 x296000_1.length co48) := (blk_cell BK295.out 0).trans rfl; have hfz51_0 := blk_frozen BK295.out 0) | ((with_reducible refine gate_callee (f := 64) rfl ?_); refine goesL_ (some 56) rfl rfl Tryd.func64 (by kernel_rfl) rfl #[.slice Ao50 y302.length co50] rfl (by (try simp only [List.map_toArray, List.map_cons, List.map_nil]); first | done | rfl | (simp only [List.length_drop, List.length_take]; rfl)) ?_; (with_reducible refine (squelchref05_ordered.calls k1 _ _ y302 true _ ?side1 ?side2 A39.out).mono ?_); (case side1 => refine (Kd.R_reads' (e := 37) (base := w.heap.size) (ok := fun k_ => True) (n := y302.length) (c := co50) ?_).2.2; exact (by (with_reducible repeat (first | apply Kd.R_alloc | apply Kd.R_drewN | apply Kd.R_drew)); exact (Kd.R_mono (Kd.R_far (p := ⟨gb295, 0, none⟩) (Kd.R_types HO304.out BK295.out (by decide)) (fun _ hk => hk.2) (.slice Ao50 y302.length co50)) (fun _ h_ => h_.1)))); (case side2 => exact (Kd.R_reads' HO304.out).2.1); rintro e w' ⟨rfl, ⟨nd, rfl⟩⟩; refine ⟨_, rfl, ?_⟩; have hcz52_0 : w49.cell? ⟨gb294, 0, none⟩ = some (.slice none 0 0) := (blk_cell BK294.out 0).trans rfl; have hfz52_0 := blk_frozen BK294.out 0))
             refine bodyPost_ret (results_ctt rfl _ _ gb294 31 #[.slice Ao50 y302.length co50] (0, 0) _ rfl (by (with_reducible repeat (first | refine blk_drewN ?_ _ | refine blk_drew ?_ | refine blk_alloc ?_ _)); refine blk_put (cs := #[.slice none 0 0]) ?_ 0 _ rfl; (with_reducible repeat (first | refine blk_drewN ?_ _ | refine blk_drew ?_ | refine blk_alloc ?_ _)); refine blk_far ?_ NB294_295.out _; (with_reducible repeat (first | refine blk_drewN ?_ _ | refine blk_drew ?_ | refine blk_alloc ?_ _)); exact BK294.out) Tryd.underlying31 rfl (by kernel_rfl)) rfl ?_
             exact ⟨_, by first | rfl | (simp [errW_none, errW_some] <;> rfl) | (simp [*, errW_none, errW_some] <;> rfl), by (with_reducible repeat (first | apply Kd.R_alloc | apply Kd.R_drewN | apply Kd.R_drew)); exact Kd.R_mono (Kd.R_far (p := ⟨gb294, 0, none⟩) (Kd.R_far (p := ⟨gb295, 0, none⟩) (Kd.R_types (Kd.R_types HO304.out BK295.out (by decide)) BK294.out (by decide)) (fun _ hk => hk.1.2) (.slice Ao50 y302.length co50)) (fun _ hk => hk.2) (.slice Ao50 y302.length co50)) (fun _ hk => trivial), by repeat (first | (with_reducible first | exact HB.out | apply below_alloc | apply pw_below_drewN | apply below_drew1 | refine below_set ?_ GE294.out | refine below_set ?_ GE295.out | refine below_set ?_ GE301.out) | exact HB.out)⟩
            ·replace c40 := Bool.eq_false_iff.mpr c40
             subst c40
             have H1 : (some (([] : List (S37)), 0, 11)) = some (r1, r2, r3) := by rw [if_neg (show ¬ (false = true) by decide)] at H; exact H
             clear H
             have H := H1
             clear H1
             simp only [Option.some.injEq, Prod.mk.injEq] at H
             obtain ⟨rfl, rfl, rfl⟩ := H
             go_wp2_with (first | ((with_reducible refine gate_callee (f := 55) rfl ?_); refine goesL_ (some 26) rfl rfl Tryd.func55 (by kernel_rfl) rfl #[.string (a0.extract (x6_1 : Int).toNat ((wrap64 (x6_1 + 7)) : Int).toNat)] rfl (by (try simp only [List.map_toArray, List.map_cons, List.map_nil]); first | done | rfl | (simp only [List.length_drop, List.length_take]; rfl)) ?_; (with_reducible refine (squelchref04_Get.calls k1 (a0.extract (x6_1 : Int).toNat ((wrap64 (x6_1 + 7)) : Int).toNat) t296 t297 t298 true true _ A12.out).mono ?_); rintro e w53 ⟨rfl, hb⟩; refine ⟨_, rfl, ?_⟩; have n0_ := Aside0.mk (Kd.R_below (by (with_reducible repeat (first | apply Kd.R_alloc | apply Kd.R_drewN | apply Kd.R_drew)); exact HO_296000.out) hb); have n1_ := Aside0.mk (blk_below (g := gb294) (o := .cells #[.slice none 0 0] 31 (0, 0)) (by (with_reducible repeat (first | refine blk_drewN ?_ _ | refine blk_drew ?_ | refine blk_alloc ?_ _)); exact BK294.out) hb); have n2_ := Aside0.mk (blk_below (g := gb295) (o := .cells #[u296000] 31 (0, 0)) (by (with_reducible repeat (first | refine blk_drewN ?_ _ | refine blk_drew ?_ | refine blk_alloc ?_ _)); exact BK295.out) hb); have n3_ := Aside0.mk (below_step (by repeat (first | (with_reducible first | exact HB.out | apply below_alloc | apply pw_below_drewN | apply below_drew1 | refine below_set ?_ GE294.out | refine below_set ?_ GE295.out) | exact HB.out)) hb); clear HO_296000; clear BK294; clear BK295; clear HB; have HO_296000 := n0_; have BK294 := n1_; have BK295 := n2_; have HB := n3_; clear n0_ n1_ n2_ n3_; (try clear hb); (try clear hb2); (try clear hk); (try clear hi)) | ((with_reducible refine gate_dst (N := 7) rfl ?_); refine box_event ?hg (N := 7) ?hd (cs := #[.string (⟨#[]⟩ : ByteArray), .int .i64 0]) (t := 23) ?hr ?_; (case hd => rfl); (case hg => rfl); (case hr => first | (go_simp; done) | (go_simp; rfl)); intro gb301 hg w54 hbox hb; have n0_ := Aside0.mk (Kd.R_below (by (with_reducible repeat (first | apply Kd.R_alloc | apply Kd.R_drewN | apply Kd.R_drew)); exact HO_296000.out) hb); have n1_ := Aside0.mk (blk_below (g := gb294) (o := .cells #[.slice none 0 0] 31 (0, 0)) (by (with_reducible repeat (first | refine blk_drewN ?_ _ | refine blk_drew ?_ | refine blk_alloc ?_ _)); exact BK294.out) hb); have n2_ := Aside0.mk (blk_below (g := gb295) (o := .cells #[u296000] 31 (0, 0)) (by (with_reducible repeat (first | refine blk_drewN ?_ _ | refine blk_drew ?_ | refine blk_alloc ?_ _)); exact BK295.out) hb); have n3_ := Aside0.mk (below_step (by repeat (first | (with_reducible first | exact HB.out | apply below_alloc | apply pw_below_drewN | apply below_drew1 | refine below_set ?_ GE294.out | refine below_set ?_ GE295.out) | exact HB.out)) hb); have n4_ := Aside0.mk (hbox); have n5_ := Aside0.mk ((by rw [hg]; exact (below_size (by repeat (first | (with_reducible first | exact HB.out | apply below_alloc | apply pw_below_drewN | apply below_drew1 | refine below_set ?_ GE294.out | refine below_set ?_ GE295.out) | exact HB.out))) : w.heap.size ≤ gb301)); have n6_ := Aside0.mk ((by rw [hg]; exact (below_size (by repeat (first | (with_reducible first | exact HB.out | apply below_alloc | apply pw_below_drewN | apply below_drew1 | refine below_set ?_ GE294.out | refine below_set ?_ GE295.out) | exact HB.out))) : w.heap.size ≤ gb301)); have n7_ := Aside0.mk ((by rw [hg]; exact Nat.ne_of_lt (blk_lt (g := gb294) (o := .cells #[.slice none 0 0] 31 (0, 0)) (by (with_reducible repeat (first | refine blk_drewN ?_ _ | refine blk_drew ?_ | refine blk_alloc ?_ _)); exact BK294.out)) : gb294 ≠ gb301)); have n8_ := Aside0.mk ((by rw [hg]; exact Nat.ne_of_gt (blk_lt (g := gb294) (o := .cells #[.slice none 0 0] 31 (0, 0)) (by (with_reducible repeat (first | refine blk_drewN ?_ _ | refine blk_drew ?_ | refine blk_alloc ?_ _)); exact BK294.out)) : gb301 ≠ gb294)); have n9_ := Aside0.mk ((by rw [hg]; exact Nat.ne_of_lt (blk_lt (g := gb295) (o := .cells #[u296000] 31 (0, 0)) (by (with_reducible repeat (first | refine blk_drewN ?_ _ | refine blk_drew ?_ | refine blk_alloc ?_ _)); exact BK295.out)) : gb295 ≠ gb301)); have n10_ := Aside0.mk ((by rw [hg]; exact Nat.ne_of_gt (blk_lt (g := gb295) (o := .cells #[u296000] 31 (0, 0)) (by (with_reducible repeat (first | refine blk_drewN ?_ _ | refine blk_drew ?_ | refine blk_alloc ?_ _)); exact BK295.out)) : gb301 ≠ gb295)); clear HO_296000; clear BK294; clear BK295; clear HB; have HO_296000 := n0_; have BK294 := n1_; have BK295 := n2_; have HB := n3_; have BK301 := n4_; have GW301 := n5_; have GE301 := n6_; have NB294_301 := n7_; have NB301_294 := n8_; have NB295_301 := n9_; have NB301_295 := n10_; clear n0_ n1_ n2_ n3_ n4_ n5_ n6_ n7_ n8_ n9_ n10_; clear hb hbox hg; have hnb55 := NB301_294.out; have hnc55 := NB294_301.out; have hnb56 := NB301_295.out; have hnc56 := NB295_301.out; have hcz57_0 : w54.cell? ⟨gb301, 0, none⟩ = some (.string (⟨#[]⟩ : ByteArray)) := (blk_cell BK301.out 0).trans rfl; have hcz57_1 : w54.cell? ⟨gb301, 1, none⟩ = some (.int .i64 0) := (blk_cell BK301.out 1).trans rfl; have hfz57_0 := blk_frozen BK301.out 0; have hfz57_1 := blk_frozen BK301.out 1; have hnb58 := NB295_294.out; have hnc58 := NB294_295.out; have hcz59_0 : w54.cell? ⟨gb295, 0, none⟩ = some (u296000) := (blk_cell BK295.out 0).trans rfl; have hfz59_0 := blk_frozen BK295.out 0; obtain ⟨Ao60, co60, eo60⟩ := Kd.R_slice HO_296000.out; subst eo60) | ((with_reducible refine gate_builtin (b := .append) (xs := #[.tmp 40, .tmp 44]) rfl ?_); at_builtin; refine Kd.R_append k37 (w0 := w) w.heap.size rfl (.tmp 40) (.tmp 44) 29 37 (.agg #[(.string ⟨#[]⟩), (.int .i64 0), (.bool false)]) 32 rfl Tryd.underlying29 info37 rfl (by decide) (by omega) (.slice Ao60 x296000_1.length co60) x296000_1 (⟨(⟨t296, t297⟩ : S23), t298⟩ : S37) [.string t296, .int .i64 t297, .bool t298] (fun _ => True) (fun _ => False) rfl (by first | (go_simp; done) | (go_simp; rfl)) ?aP (fun _ hk => hk.elim) ?aF ?aO ?aB ?aS ?aL ?_; (case aP => exact k37_mkM _ _ _ (⟨(⟨t296, t297⟩ : S23), t298⟩ : S37)); (case aB => exact (by repeat (first | (with_reducible first | exact HB.out | apply below_alloc | apply pw_below_drewN | apply below_drew1 | refine below_set ?_ GE294.out | refine below_set ?_ GE295.out | refine below_set ?_ GE301.out) | exact HB.out))); (case aF => exact (fun _ _ => trivial)); (case aO => exact (by (with_reducible repeat (first | apply Kd.R_alloc | apply Kd.R_drewN | apply Kd.R_drew)); exact Kd.R_mono (Kd.R_far (p := ⟨gb301, 1, none⟩) (Kd.R_far (p := ⟨gb301, 0, none⟩) (Kd.R_types HO_296000.out BK301.out (by decide)) (fun _ hk => hk.2) (.string t296)) (fun _ hk => hk.2) (.int .i64 t297)) (fun _ hk => trivial))); (case aS => exact (below_size (by repeat (first | (with_reducible first | exact HB.out | apply below_alloc | apply pw_below_drewN | apply below_drew1 | refine below_set ?_ GE294.out | refine below_set ?_ GE295.out | refine below_set ?_ GE301.out) | exact HB.out)))); (case aL => have := LMc24.out; omega); intro v303 w61 ho hb hg hat; rw [← Ny302.out] at ho; have n0_ := Aside0.mk (blk_grown (g := gb294) (o := .cells #[.slice none 0 0] 31 (0, 0)) (by (with_reducible repeat (first | refine blk_drewN ?_ _ | refine blk_drew ?_ | refine blk_alloc ?_ _)); refine blk_far ?_ NB294_301.out _; (with_reducible repeat (first | refine blk_drewN ?_ _ | refine blk_drew ?_ | refine blk_alloc ?_ _)); refine blk_far ?_ NB294_301.out _; (with_reducible repeat (first | refine blk_drewN ?_ _ | refine blk_drew ?_ | refine blk_alloc ?_ _)); exact BK294.out) hg (Kd.R_ne HO_296000.out BK294.out (by decide))); have n1_ := Aside0.mk (blk_grown (g := gb295) (o := .cells #[.slice Ao60 x296000_1.length co60] 31 (0, 0)) (by (with_reducible repeat (first | refine blk_drewN ?_ _ | refine blk_drew ?_ | refine blk_alloc ?_ _)); refine blk_far ?_ NB295_301.out _; (with_reducible repeat (first | refine blk_drewN ?_ _ | refine blk_drew ?_ | refine blk_alloc ?_ _)); refine blk_far ?_ NB295_301.out _; (with_reducible repeat (first | refine blk_drewN ?_ _ | refine blk_drew ?_ | refine blk_alloc ?_ _)); exact BK295.out) hg (Kd.R_ne HO_296000.out BK295.out (by decide))); have n2_ := Aside0.mk (blk_grown (g := gb301) (o := .cells #[.string t296, .int .i64 t297] 23 (0, 0)) (by (with_reducible repeat (first | refine blk_drewN ?_ _ | refine blk_drew ?_ | refine blk_alloc ?_ _)); refine blk_put (cs := #[.string t296, .int .i64 0]) ?_ 1 _ rfl; (with_reducible repeat (first | refine blk_drewN ?_ _ | refine blk_drew ?_ | refine blk_alloc ?_ _)); refine blk_put (cs := #[.string (⟨#[]⟩ : ByteArray), .int .i64 0]) ?_ 0 _ rfl; (with_reducible repeat (first | refine blk_drewN ?_ _ | refine blk_drew ?_ | refine blk_alloc ?_ _)); exact BK301.out) hg (Kd.R_ne HO_296000.out BK301.out (by decide))); have n3_ := Aside0.mk (hb); have n4_ := Aside0.mk (ho); clear BK294; clear BK295; clear BK301; clear HB; clear HO_296000; have BK294 := n0_; have BK295 := n1_; have BK301 := n2_; have HB := n3_; have HO304 := n4_; clear n0_ n1_ n2_ n3_ n4_; clear ho hb hg hat; obtain ⟨Ao62, co62, eo62⟩ := Kd.R_slice HO304.out; subst eo62; have hcz63_0 : w61.cell? ⟨gb295, 0, none⟩ = some (.slice Ao60 x296000_1.length co60) := (blk_cell BK295.out 0).trans rfl; have hfz63_0 := blk_frozen BK295.out 0) | ((with_reducible refine gate_callee (f := 64) rfl ?_); refine goesL_ (some 56) rfl rfl Tryd.func64 (by kernel_rfl) rfl #[.slice Ao62 y302.length co62] rfl (by (try simp only [List.map_toArray, List.map_cons, List.map_nil]); first | done | rfl | (simp only [List.length_drop, List.length_take]; rfl)) ?_; (with_reducible refine (squelchref05_ordered.calls k1 _ _ y302 false _ ?side1 ?side2 A39.out).mono ?_); (case side1 => refine (Kd.R_reads' (e := 37) (base := w.heap.size) (ok := fun k_ => True) (n := y302.length) (c := co62) ?_).2.2; exact (by (with_reducible repeat (first | apply Kd.R_alloc | apply Kd.R_drewN | apply Kd.R_drew)); exact (Kd.R_mono (Kd.R_far (p := ⟨gb295, 0, none⟩) (Kd.R_types HO304.out BK295.out (by decide)) (fun _ hk => hk.2) (.slice Ao62 y302.length co62)) (fun _ h_ => h_.1)))); (case side2 => exact (Kd.R_reads' HO304.out).2.1); rintro e w' ⟨rfl, ⟨nd, rfl⟩⟩; refine ⟨_, rfl, ?_⟩; have hcz64_0 : w61.cell? ⟨gb294, 0, none⟩ = some (.slice none 0 0) := (blk_cell BK294.out 0).trans rfl; have hfz64_0 := blk_frozen BK294.out 0))
             refine bodyPost_ret (results_ctt rfl _ _ gb294 31 #[.slice none 0 0] (0, 0) _ rfl (by (with_reducible repeat (first | refine blk_drewN ?_ _ | refine blk_drew ?_ | refine blk_alloc ?_ _)); refine blk_put (cs := #[.slice none 0 0]) ?_ 0 _ rfl; (with_reducible repeat (first | refine blk_drewN ?_ _ | refine blk_drew ?_ | refine blk_alloc ?_ _)); refine blk_far ?_ NB294_295.out _; (with_reducible repeat (first | refine blk_drewN ?_ _ | refine blk_drew ?_ | refine blk_alloc ?_ _)); exact BK294.out) Tryd.underlying31 rfl (by kernel_rfl)) rfl ?_
             exact ⟨_, by first | rfl | (simp [errW_none, errW_some] <;> rfl) | (simp [*, errW_none, errW_some] <;> rfl), by first | exact Kd.R_nil _ _ _ _ _ | exact Kd.N_nil _ _ _ _ _ | exact Kd.V_nil _ _ _ _ _ | exact Kd.Q_nil _ _ _ _ _ | exact Kd.S_nil _ _ _ _ _, by repeat (first | (with_reducible first | exact HB.out | apply below_alloc | apply pw_below_drewN | apply below_drew1 | refine below_set ?_ GE294.out | refine below_set ?_ GE295.out | refine below_set ?_ GE301.out) | exact HB.out)⟩
          ·replace c25 := Bool.eq_false_iff.mpr c25
           subst c25
           have H1 : (squelchref05_Get.l0 k1 a0 (wrap64 (x6_1 + 7)) y302) = some (r1, r2, r3) := by rw [if_neg (show ¬ (false = true) by decide)] at H; exact H
           clear H
           have H := H1
           clear H1
           have H' := Aside0.mk H
           clear H
           go_wp2_with (first | ((with_reducible refine gate_callee (f := 55) rfl ?_); refine goesL_ (some 26) rfl rfl Tryd.func55 (by kernel_rfl) rfl #[.string (a0.extract (x6_1 : Int).toNat ((wrap64 (x6_1 + 7)) : Int).toNat)] rfl (by (try simp only [List.map_toArray, List.map_cons, List.map_nil]); first | done | rfl | (simp only [List.length_drop, List.length_take]; rfl)) ?_; (with_reducible refine (squelchref04_Get.calls k1 (a0.extract (x6_1 : Int).toNat ((wrap64 (x6_1 + 7)) : Int).toNat) t296 t297 t298 false true _ A12.out).mono ?_); rintro e w65 ⟨rfl, hb⟩; refine ⟨_, rfl, ?_⟩; have n0_ := Aside0.mk (Kd.R_below (by (with_reducible repeat (first | apply Kd.R_alloc | apply Kd.R_drewN | apply Kd.R_drew)); exact HO_296000.out) hb); have n1_ := Aside0.mk (blk_below (g := gb294) (o := .cells #[.slice none 0 0] 31 (0, 0)) (by (with_reducible repeat (first | refine blk_drewN ?_ _ | refine blk_drew ?_ | refine blk_alloc ?_ _)); exact BK294.out) hb); have n2_ := Aside0.mk (blk_below (g := gb295) (o := .cells #[u296000] 31 (0, 0)) (by (with_reducible repeat (first | refine blk_drewN ?_ _ | refine blk_drew ?_ | refine blk_alloc ?_ _)); exact BK295.out) hb); have n3_ := Aside0.mk (below_step (by repeat (first | (with_reducible first | exact HB.out | apply below_alloc | apply pw_below_drewN | apply below_drew1 | refine below_set ?_ GE294.out | refine below_set ?_ GE295.out) | exact HB.out)) hb); clear HO_296000; clear BK294; clear BK295; clear HB; have HO_296000 := n0_; have BK294 := n1_; have BK295 := n2_; have HB := n3_; clear n0_ n1_ n2_ n3_; (try clear hb); (try clear hb2); (try clear hk); (try clear hi)) | ((with_reducible refine gate_dst (N := 7) rfl ?_); refine box_event ?hg (N := 7) ?hd (cs := #[.string (⟨#[]⟩ : ByteArray), .int .i64 0]) (t := 23) ?hr ?_; (case hd => rfl); (case hg => rfl); (case hr => first | (go_simp; done) | (go_simp; rfl)); intro gb301 hg w66 hbox hb; have n0_ := Aside0.mk (Kd.R_below (by (with_reducible repeat (first | apply Kd.R_alloc | apply Kd.R_drewN | apply Kd.R_drew)); exact HO_296000.out) hb); have n1_ := Aside0.mk (blk_below (g := gb294) (o := .cells #[.slice none 0 0] 31 (0, 0)) (by (with_reducible repeat (first | refine blk_drewN ?_ _ | refine blk_drew ?_ | refine blk_alloc ?_ _)); exact BK294.out) hb); have n2_ := Aside0.mk (blk_below (g := gb295) (o := .cells #[u296000] 31 (0, 0)) (by (with_reducible repeat (first | refine blk_drewN ?_ _ | refine blk_drew ?_ | refine blk_alloc ?_ _)); exact BK295.out) hb); have n3_ := Aside0.mk (below_step (by repeat (first | (with_reducible first | exact HB.out | apply below_alloc | apply pw_below_drewN | apply below_drew1 | refine below_set ?_ GE294.out | refine below_set ?_ GE295.out) | exact HB.out)) hb); have n4_ := Aside0.mk (hbox); have n5_ := Aside0.mk ((by rw [hg]; exact (below_size (by repeat (first | (with_reducible first | exact HB.out | apply below_alloc | apply pw_below_drewN | apply below_drew1 | refine below_set ?_ GE294.out | refine below_set ?_ GE295.out) | exact HB.out))) : w.heap.size ≤ gb301)); have n6_ := Aside0.mk ((by rw [hg]; exact (below_size (by repeat (first | (with_reducible first | exact HB.out | apply below_alloc | apply pw_below_drewN | apply below_drew1 | refine below_set ?_ GE294.out | refine below_set ?_ GE295.out) | exact HB.out))) : w.heap.size ≤ gb301)); have n7_ := Aside0.mk ((by rw [hg]; exact Nat.ne_of_lt (blk_lt (g := gb294) (o := .cells #[.slice none 0 0] 31 (0, 0)) (by (with_reducible repeat (first | refine blk_drewN ?_ _ | refine blk_drew ?_ | refine blk_alloc ?_ _)); exact BK294.out)) : gb294 ≠ gb301)); have n8_ := Aside0.mk ((by rw [hg]; exact Nat.ne_of_gt (blk_lt (g := gb294) (o := .cells #[.slice none 0 0] 31 (0, 0)) (by (with_reducible repeat (first | refine blk_drewN ?_ _ | refine blk_drew ?_ | refine blk_alloc ?_ _)); exact BK294.out)) : gb301 ≠ gb294)); have n9_ := Aside0.mk ((by rw [hg]; exact Nat.ne_of_lt (blk_lt (g := gb295) (o := .cells #[u296000] 31 (0, 0)) (by (with_reducible repeat (first | refine blk_drewN ?_ _ | refine blk_drew ?_ | refine blk_alloc ?_ _)); exact BK295.out)) : gb295 ≠ gb301)); have n10_ := Aside0.mk ((by rw [hg]; exact Nat.ne_of_gt (blk_lt (g := gb295) (o := .cells #[u296000] 31 (0, 0)) (by (with_reducible repeat (first | refine blk_drewN ?_ _ | refine blk_drew ?_ | refine blk_alloc ?_ _)); exact BK295.out)) : gb301 ≠ gb295)); clear HO_296000; clear BK294; clear BK295; clear HB; have HO_296000 := n0_; have BK294 := n1_; have BK295 := n2_; have HB := n3_; have BK301 := n4_; have GW301 := n5_; have GE301 := n6_; have NB294_301 := n7_; have NB301_294 := n8_; have NB295_301 := n9_; have NB301_295 := n10_; clear n0_ n1_ n2_ n3_ n4_ n5_ n6_ n7_ n8_ n9_ n10_; clear hb hbox hg; have hnb67 := NB301_294.out; have hnc67 := NB294_301.out; have hnb68 := NB301_295.out; have hnc68 := NB295_301.out; have hcz69_0 : w66.cell? ⟨gb301, 0, none⟩ = some (.string (⟨#[]⟩ : ByteArray)) := (blk_cell BK301.out 0).trans rfl; have hcz69_1 : w66.cell? ⟨gb301, 1, none⟩ = some (.int .i64 0) := (blk_cell BK301.out 1).trans rfl; have hfz69_0 := blk_frozen BK301.out 0; have hfz69_1 := blk_frozen BK301.out 1; have hnb70 := NB295_294.out; have hnc70 := NB294_295.out; have hcz71_0 : w66.cell? ⟨gb295, 0, none⟩ = some (u296000) := (blk_cell BK295.out 0).trans rfl; have hfz71_0 := blk_frozen BK295.out 0; obtain ⟨Ao72, co72, eo72⟩ := Kd.R_slice HO_296000.out; subst eo72) | ((with_reducible refine gate_builtin (b := .append) (xs := #[.tmp 40, .tmp 44]) rfl ?_); at_builtin; refine Kd.R_append k37 (w0 := w) w.heap.size rfl (.tmp 40) (.tmp 44) 29 37 (.agg #[(.string ⟨#[]⟩), (.int .i64 0), (.bool false)]) 32 rfl Tryd.underlying29 info37 rfl (by decide) (by omega) (.slice Ao72 x296000_1.length co72) x296000_1 (⟨(⟨t296, t297⟩ : S23), t298⟩ : S37) [.string t296, .int .i64 t297, .bool t298] (fun _ => True) (fun _ => False) rfl (by first | (go_simp; done) | (go_simp; rfl)) ?aP (fun _ hk => hk.elim) ?aF ?aO ?aB ?aS ?aL ?_; (case aP => exact k37_mkM _ _ _ (⟨(⟨t296, t297⟩ : S23), t298⟩ : S37)); (case aB => exact (by repeat (first | (with_reducible first | exact HB.out | apply below_alloc | apply pw_below_drewN | apply below_drew1 | refine below_set ?_ GE294.out | refine below_set ?_ GE295.out | refine below_set ?_ GE301.out) | exact HB.out))); (case aF => exact (fun _ _ => trivial)); (case aO => exact (by (with_reducible repeat (first | apply Kd.R_alloc | apply Kd.R_drewN | apply Kd.R_drew)); exact Kd.R_mono (Kd.R_far (p := ⟨gb301, 1, none⟩) (Kd.R_far (p := ⟨gb301, 0, none⟩) (Kd.R_types HO_296000.out BK301.out (by decide)) (fun _ hk => hk.2) (.string t296)) (fun _ hk => hk.2) (.int .i64 t297)) (fun _ hk => trivial))); (case aS => exact (below_size (by repeat (first | (with_reducible first | exact HB.out | apply below_alloc | apply pw_below_drewN | apply below_drew1 | refine below_set ?_ GE294.out | refine below_set ?_ GE295.out | refine below_set ?_ GE301.out) | exact HB.out)))); (case aL => have := LMc24.out; omega); intro v303 w73 ho hb hg hat; rw [← Ny302.out] at ho; have n0_ := Aside0.mk (blk_grown (g := gb294) (o := .cells #[.slice none 0 0] 31 (0, 0)) (by (with_reducible repeat (first | refine blk_drewN ?_ _ | refine blk_drew ?_ | refine blk_alloc ?_ _)); refine blk_far ?_ NB294_301.out _; (with_reducible repeat (first | refine blk_drewN ?_ _ | refine blk_drew ?_ | refine blk_alloc ?_ _)); refine blk_far ?_ NB294_301.out _; (with_reducible repeat (first | refine blk_drewN ?_ _ | refine blk_drew ?_ | refine blk_alloc ?_ _)); exact BK294.out) hg (Kd.R_ne HO_296000.out BK294.out (by decide))); have n1_ := Aside0.mk (blk_grown (g := gb295) (o := .cells #[.slice Ao72 x296000_1.length co72] 31 (0, 0)) (by (with_reducible repeat (first | refine blk_drewN ?_ _ | refine blk_drew ?_ | refine blk_alloc ?_ _)); refine blk_far ?_ NB295_301.out _; (with_reducible repeat (first | refine blk_drewN ?_ _ | refine blk_drew ?_ | refine blk_alloc ?_ _)); refine blk_far ?_ NB295_301.out _; (with_reducible repeat (first | refine blk_drewN ?_ _ | refine blk_drew ?_ | refine blk_alloc ?_ _)); exact BK295.out) hg (Kd.R_ne HO_296000.out BK295.out (by decide))); have n2_ := Aside0.mk (blk_grown (g := gb301) (o := .cells #[.string t296, .int .i64 t297] 23 (0, 0)) (by (with_reducible repeat (first | refine blk_drewN ?_ _ | refine blk_drew ?_ | refine blk_alloc ?_ _)); refine blk_put (cs := #[.string t296, .int .i64 0]) ?_ 1 _ rfl; (with_reducible repeat (first | refine blk_drewN ?_ _ | refine blk_drew ?_ | refine blk_alloc ?_ _)); refine blk_put (cs := #[.string (⟨#[]⟩ : ByteArray), .int .i64 0]) ?_ 0 _ rfl; (with_reducible repeat (first | refine blk_drewN ?_ _ | refine blk_drew ?_ | refine blk_alloc ?_ _)); exact BK301.out) hg (Kd.R_ne HO_296000.out BK301.out (by decide))); have n3_ := Aside0.mk (hb); have n4_ := Aside0.mk (ho); clear BK294; clear BK295; clear BK301; clear HB; clear HO_296000; have BK294 := n0_; have BK295 := n1_; have BK301 := n2_; have HB := n3_; have HO304 := n4_; clear n0_ n1_ n2_ n3_ n4_; clear ho hb hg hat; obtain ⟨Ao74, co74, eo74⟩ := Kd.R_slice HO304.out; subst eo74; have hcz75_0 : w73.cell? ⟨gb295, 0, none⟩ = some (.slice Ao72 x296000_1.length co72) := (blk_cell BK295.out 0).trans rfl; have hfz75_0 := blk_frozen BK295.out 0))
           go_roundg k1
           case measure => have := HK1.out; omega
           case rel => exact ⟨(wrap64 (x6_1 + 7)), (y302), (.slice Ao74 y302.length co74), (by first | rfl | (simp; done) | (simp [*]; done) | (simp; exact (fun l : List UInt8 => (by cases l <;> rfl : l.isEmpty = !(l != []))) _)), H', ⟨by have := HK1.out; omega⟩, ⟨by (with_reducible repeat (first | apply Kd.R_alloc | apply Kd.R_drewN | apply Kd.R_drew)); exact Kd.R_mono (Kd.R_far (p := ⟨gb295, 0, none⟩) (Kd.R_types HO304.out BK295.out (by decide)) (fun _ hk => hk.2) (.slice Ao74 y302.length co74)) (fun _ hk => trivial)⟩, ⟨by (with_reducible repeat (first | refine blk_drewN ?_ _ | refine blk_drew ?_ | refine blk_alloc ?_ _)); refine blk_far ?_ NB294_295.out _; (with_reducible repeat (first | refine blk_drewN ?_ _ | refine blk_drew ?_ | refine blk_alloc ?_ _)); exact BK294.out⟩, ⟨by (with_reducible repeat (first | refine blk_drewN ?_ _ | refine blk_drew ?_ | refine blk_alloc ?_ _)); refine blk_put (cs := #[.slice Ao72 x296000_1.length co72]) ?_ 0 _ rfl; (with_reducible repeat (first | refine blk_drewN ?_ _ | refine blk_drew ?_ | refine blk_alloc ?_ _)); exact BK295.out⟩, ⟨by repeat (first | (with_reducible first | exact HB.out | apply below_alloc | apply pw_below_drewN | apply below_drew1 | refine below_set ?_ GE294.out | refine below_set ?_ GE295.out | refine below_set ?_ GE301.out) | exact HB.out)⟩⟩
         ·rw [if_neg c24] at H
          exact absurd H (by simp)
       ·replace c13 := Bool.eq_false_iff.mpr c13
        subst c13
        have H1 : (some (([] : List (S37)), 0, 2)) = some (r1, r2, r3) := by rw [if_neg (show ¬ (false = true) by decide)] at H; exact H
        clear H
        have H := H1
        clear H1
        simp only [Option.some.injEq, Prod.mk.injEq] at H
        obtain ⟨rfl, rfl, rfl⟩ := H
        go_wp2_with (first | ((with_reducible refine gate_callee (f := 55) rfl ?_); refine goesL_ (some 26) rfl rfl Tryd.func55 (by kernel_rfl) rfl #[.string (a0.extract (x6_1 : Int).toNat ((wrap64 (x6_1 + 7)) : Int).toNat)] rfl (by (try simp only [List.map_toArray, List.map_cons, List.map_nil]); first | done | rfl | (simp only [List.length_drop, List.length_take]; rfl)) ?_; (with_reducible refine (squelchref04_Get.calls k1 (a0.extract (x6_1 : Int).toNat ((wrap64 (x6_1 + 7)) : Int).toNat) t296 t297 t298 t299 false _ A12.out).mono ?_); rintro e w76 ⟨rfl, hb⟩; refine ⟨_, rfl, ?_⟩; have n0_ := Aside0.mk (Kd.R_below (by (with_reducible repeat (first | apply Kd.R_alloc | apply Kd.R_drewN | apply Kd.R_drew)); exact HO_296000.out) hb); have n1_ := Aside0.mk (blk_below (g := gb294) (o := .cells #[.slice none 0 0] 31 (0, 0)) (by (with_reducible repeat (first | refine blk_drewN ?_ _ | refine blk_drew ?_ | refine blk_alloc ?_ _)); exact BK294.out) hb); have n2_ := Aside0.mk (blk_below (g := gb295) (o := .cells #[u296000] 31 (0, 0)) (by (with_reducible repeat (first | refine blk_drewN ?_ _ | refine blk_drew ?_ | refine blk_alloc ?_ _)); exact BK295.out) hb); have n3_ := Aside0.mk (below_step (by repeat (first | (with_reducible first | exact HB.out | apply below_alloc | apply pw_below_drewN | apply below_drew1 | refine below_set ?_ GE294.out | refine below_set ?_ GE295.out) | exact HB.out)) hb); clear HO_296000; clear BK294; clear BK295; clear HB; have HO_296000 := n0_; have BK294 := n1_; have BK295 := n2_; have HB := n3_; clear n0_ n1_ n2_ n3_; (try clear hb); (try clear hb2); (try clear hk); (try clear hi)) | ((with_reducible refine gate_dst (N := 7) rfl ?_); refine box_event ?hg (N := 7) ?hd (cs := #[.string (⟨#[]⟩ : ByteArray), .int .i64 0]) (t := 23) ?hr ?_; (case hd => rfl); (case hg => rfl); (case hr => first | (go_simp; done) | (go_simp; rfl)); intro gb301 hg w77 hbox hb; have n0_ := Aside0.mk (Kd.R_below (by (with_reducible repeat (first | apply Kd.R_alloc | apply Kd.R_drewN | apply Kd.R_drew)); exact HO_296000.out) hb); have n1_ := Aside0.mk (blk_below (g := gb294) (o := .cells #[.slice none 0 0] 31 (0, 0)) (by (with_reducible repeat (first | refine blk_drewN ?_ _ | refine blk_drew ?_ | refine blk_alloc ?_ _)); exact BK294.out) hb); have n2_ := Aside0.mk (blk_below (g := gb295) (o := .cells #[u296000] 31 (0, 0)) (by (with_reducible repeat (first | refine blk_drewN ?_ _ | refine blk_drew ?_ | refine blk_alloc ?_ _)); exact BK295.out) hb); have n3_ := Aside0.mk (below_step (by repeat (first | (with_reducible first | exact HB.out | apply below_alloc | apply pw_below_drewN | apply below_drew1 | refine below_set ?_ GE294.out | refine below_set ?_ GE295.out) | exact HB.out)) hb); have n4_ := Aside0.mk (hbox); have n5_ := Aside0.mk ((by rw [hg]; exact (below_size (by repeat (first | (with_reducible first | exact HB.out | apply below_alloc | apply pw_below_drewN | apply below_drew1 | refine below_set ?_ GE294.out | refine below_set ?_ GE295.out) | exact HB.out))) : w.heap.size ≤ gb301)); have n6_ := Aside0.mk ((by rw [hg]; exact (below_size (by repeat (first | (with_reducible first | exact HB.out | apply below_alloc | apply pw_below_drewN | apply below_drew1 | refine below_set ?_ GE294.out | refine below_set ?_ GE295.out) | exact HB.out))) : w.heap.size ≤ gb301)); have n7_ := Aside0.mk ((by rw [hg]; exact Nat.ne_of_lt (blk_lt (g := gb294) (o := .cells #[.slice none 0 0] 31 (0, 0)) (by (with_reducible repeat (first | refine blk_drewN ?_ _ | refine blk_drew ?_ | refine blk_alloc ?_ _)); exact BK294.out)) : gb294 ≠ gb301)); have n8_ := Aside0.mk ((by rw [hg]; exact Nat.ne_of_gt (blk_lt (g := gb294) (o := .cells #[.slice none 0 0] 31 (0, 0)) (by (with_reducible repeat (first | refine blk_drewN ?_ _ | refine blk_drew ?_ | refine blk_alloc ?_ _)); exact BK294.out)) : gb301 ≠ gb294)); have n9_ := Aside0.mk ((by rw [hg]; exact Nat.ne_of_lt (blk_lt (g := gb295) (o := .cells #[u296000] 31 (0, 0)) (by (with_reducible repeat (first | refine blk_drewN ?_ _ | refine blk_drew ?_ | refine blk_alloc ?_ _)); exact BK295.out)) : gb295 ≠ gb301)); have n10_ := Aside0.mk ((by rw [hg]; exact Nat.ne_of_gt (blk_lt (g := gb295) (o := .cells #[u296000] 31 (0, 0)) (by (with_reducible repeat (first | refine blk_drewN ?_ _ | refine blk_drew ?_ | refine blk_alloc ?_ _)); exact BK295.out)) : gb301 ≠ gb295)); clear HO_296000; clear BK294; clear BK295; clear HB; have HO_296000 := n0_; have BK294 := n1_; have BK295 := n2_; have HB := n3_; have BK301 := n4_; have GW301 := n5_; have GE301 := n6_; have NB294_301 := n7_; have NB301_294 := n8_; have NB295_301 := n9_; have NB301_295 := n10_; clear n0_ n1_ n2_ n3_ n4_ n5_ n6_ n7_ n8_ n9_ n10_; clear hb hbox hg; have hnb78 := NB301_294.out; have hnc78 := NB294_301.out; have hnb79 := NB301_295.out; have hnc79 := NB295_301.out; have hcz80_0 : w77.cell? ⟨gb301, 0, none⟩ = some (.string (⟨#[]⟩ : ByteArray)) := (blk_cell BK301.out 0).trans rfl; have hcz80_1 : w77.cell? ⟨gb301, 1, none⟩ = some (.int .i64 0) := (blk_cell BK301.out 1).trans rfl; have hfz80_0 := blk_frozen BK301.out 0; have hfz80_1 := blk_frozen BK301.out 1; have hnb81 := NB294_295.out; have hnc81 := NB295_294.out; have hcz82_0 : w77.cell? ⟨gb294, 0, none⟩ = some (.slice none 0 0) := (blk_cell BK294.out 0).trans rfl; have hfz82_0 := blk_frozen BK294.out 0))
        refine bodyPost_ret (results_ctt rfl _ _ gb294 31 #[.slice none 0 0] (0, 0) _ rfl (by (with_reducible repeat (first | refine blk_drewN ?_ _ | refine blk_drew ?_ | refine blk_alloc ?_ _)); refine blk_put (cs := #[.slice none 0 0]) ?_ 0 _ rfl; (with_reducible repeat (first | refine blk_drewN ?_ _ | refine blk_drew ?_ | refine blk_alloc ?_ _)); refine blk_far ?_ NB294_301.out _; (with_reducible repeat (first | refine blk_drewN ?_ _ | refine blk_drew ?_ | refine blk_alloc ?_ _)); refine blk_far ?_ NB294_301.out _; (with_reducible repeat (first | refine blk_drewN ?_ _ | refine blk_drew ?_ | refine blk_alloc ?_ _)); exact BK294.out) Tryd.underlying31 rfl (by kernel_rfl)) rfl ?_
        exact ⟨_, by first | rfl | (simp [errW_none, errW_some] <;> rfl) | (simp [*, errW_none, errW_some] <;> rfl), by first | exact Kd.R_nil _ _ _ _ _ | exact Kd.N_nil _ _ _ _ _ | exact Kd.V_nil _ _ _ _ _ | exact Kd.Q_nil _ _ _ _ _ | exact Kd.S_nil _ _ _ _ _, by repeat (first | (with_reducible first | exact HB.out | apply below_alloc | apply pw_below_drewN | apply below_drew1 | refine below_set ?_ GE294.out | refine below_set ?_ GE295.out | refine below_set ?_ GE301.out) | exact HB.out)⟩
      ·rw [if_neg c11] at H
       exact absurd H (by simp)
     ·rw [if_neg c10] at H
      exact absurd H (by simp)
    ·rw [if_neg c9] at H
     exact absurd H (by simp)

end Go.Proofs.YtpmieapgbdbabaaDoor.QAll
end

section
/- path.next, walked by hand: which digipeater is the first that has not sent it; -1, if all have. -/
set_option linter.unusedVariables false
set_option linter.unusedSimpArgs false
namespace Go.Proofs.YtpmieapgbdbabaaDoor.QAll
open Go.RowKit Go.Proofs.YtpmieapgbdbabaaDoorW.PrintWords Go.Proofs.YtpmieapgbdbabaaDoorW.PrintLast Go.Proofs.YtpmieapgbdbabaaDoorW.PrintMore

set_option maxHeartbeats 1000000 in
set_option maxRecDepth 100000 in
theorem not_has (d : S93) (w : World) : Calls Tryd.prog 88 #[.agg #[.string d.f0.f0, .int .i64 d.f0.f1, .bool d.f1]] w fun e w' => e = .returned (.bool (!d.f1)) ∧ Below w.heap.size w w' := by
  go_enter Tryd.func88, Tryd.ntmps88
  go_wp2
  go_ret
  exact ⟨rfl, (Below.refl _ _).alloc (Nat.le_refl _) _⟩
theorem drop_T93 (l : List S93) (k : Nat) (h : k < l.length) : l.drop k = rd_T93 l k :: l.drop (k + 1) := by
  rw [List.drop_eq_getElem_cons h]
  unfold rd_T93
  rw [Int.toNat_natCast, List.getD_eq_getElem?_getD, List.getElem?_eq_getElem h]
  rfl
/-- The first that has not sent it. -/
def nextFrom : Nat → List S93 → Int
  | _, [] => -1
  | i, d :: r => if d.f1 = true then nextFrom (i + 1) r else i
def nextI (l : List S93) : Int := nextFrom 0 l
set_option maxHeartbeats 1000000 in
set_option maxRecDepth 100000 in
theorem index_not (A : Option Addr) (c : Nat) (l : List S93) (w : World) (hr : Kd.C k93 w A l.length l) (hl : l.length ≤ 1000000) :
    Calls Tryd.prog 87 #[.slice A l.length c, .func (.func 88) #[] #[]] w fun e w' => e = .returned (.int .i64 (nextI l)) ∧ Below w.heap.size w w' := by
  have HR := Aside0.mk hr
  clear hr
  go_enter Tryd.func87, Tryd.ntmps87
  go_wp2
  go_loopw [8] (fun v8 wr => ∃ k : Nat, k ≤ l.length ∧ v8 = .int .i64 k ∧ Aside0 (nextI l = nextFrom k (l.drop k)) ∧ Aside0 (Below w.heap.size w wr)) (fun v8 _ => l.length - (intOf v8).toNat)
  case atStart => exact ⟨0, Nat.zero_le _, rfl, ⟨by rw [List.drop_zero]; rfl⟩, ⟨Below.refl _ _⟩⟩
  case round =>
    obtain ⟨k, hk, rfl, HN, HB⟩ := hrel
    by_cases hlt : k < l.length
    · obtain ⟨ad, rfl, x0, x1, x2⟩ := at_T93 HR.out k (by omega) (by omega)
      replace x0 := (HB.out.cell (World.block_lt_of_cell? w _ x0)).trans x0
      replace x1 := (HB.out.cell (World.block_lt_of_cell? w _ x1)).trans x1
      replace x2 := (HB.out.cell (World.block_lt_of_cell? w _ x2)).trans x2
      simp only [Int.toNat_natCast] at x0 x1 x2
      go_wp2_with (go_at_call 88; (with_reducible refine (not_has (rd_T93 l k) _).mono ?_); rintro e w1 ⟨rfl, hb⟩)
      · rename_i hc
        have hc' : (rd_T93 l k).f1 = false := by simpa using hc
        go_ret
        refine ⟨?_, below_then HB.out HB.out.size hb⟩
        rw [HN.out, drop_T93 l k hlt]
        unfold nextFrom
        rw [if_neg (by rw [hc']; simp)]
        rfl
      · rename_i hc
        have hc' : (rd_T93 l k).f1 = true := by simpa using hc
        refine ⟨⟨k + 1, by omega, by go_num, ⟨?_⟩, ⟨below_then HB.out HB.out.size hb⟩⟩, by simp [intOf]; omega⟩
        rw [HN.out, drop_T93 l k hlt]
        conv => lhs; unfold nextFrom
        rw [if_pos hc']
    · obtain rfl : k = l.length := by omega
      go_wp2
      go_ret
      refine ⟨?_, HB.out⟩
      rw [HN.out, List.drop_length]
      rfl
def path_next.f (a0_0 : ByteArray) (a0_1 : Int) (a0_2 : ByteArray) (a0_3 : Int) (a0_4 : Bool) (a0_5 : Bool) (l0_6 : List S93) : Option Int := if l0_6.length ≤ 1000000 then some (nextI l0_6) else none
set_option maxHeartbeats 1000000 in
set_option maxRecDepth 100000 in
theorem path_next.calls (a0_0 : ByteArray) (a0_1 : Int) (a0_2 : ByteArray) (a0_3 : Int) (a0_4 : Bool) (a0_5 : Bool) (A0_6 : Option Addr) (c0_6 : Nat) (l0_6 : List (S93)) (r : Int) (w : World) (hr0_6 : Kd.C k93 w A0_6 l0_6.length l0_6) (hc0_6 : l0_6.length ≤ c0_6) (h : path_next.f a0_0 a0_1 a0_2 a0_3 a0_4 a0_5 l0_6 = some r) :
    Calls Tryd.prog 58 #[.agg #[.string a0_0, .int .i64 a0_1, .string a0_2, .int .i64 a0_3, .bool a0_4, .bool a0_5, .slice A0_6 l0_6.length c0_6]] w fun e w' => e = .returned (.int .i64 r) ∧ Below w.heap.size w w' := by
  unfold path_next.f at h
  split at h
  case isFalse => cases h
  rename_i hl
  obtain rfl := Option.some.inj h
  have HR := Aside0.mk hr0_6
  clear hr0_6 h
  have hu26 := Tryd.underlying26
  have hu23 := Tryd.underlying23
  go_enter Tryd.func58, Tryd.ntmps58
  go_wp2_with (fail)
  refine (index_not A0_6 c0_6 l0_6 _ (Kd.C_below HR.out ((Below.refl _ _).alloc (Nat.le_refl _) _)) hl).mono ?_
  rintro e w1 ⟨rfl, hb⟩
  go_wp2
  go_ret
  exact ⟨rfl, below_then ((Below.refl _ _).alloc (Nat.le_refl _) _) (by simp) hb⟩
end Go.Proofs.YtpmieapgbdbabaaDoor.QAll
end

section
/- Walks, written by a program of this session (wip/pp): a Go function comes to what the Lean function beside it tells. -/
namespace Go.Proofs.YtpmieapgbdbabaaDoor.QAll
open Go.RowKit Go.Proofs.YtpmieapgbdbabaaDoorW.PrintWords Go.Proofs.YtpmieapgbdbabaaDoorW.PrintLast Go.Proofs.YtpmieapgbdbabaaDoorW.PrintMore
set_option linter.unusedVariables false
set_option linter.unusedSimpArgs false

def call_letter.f (a0 : Int) : Option (Bool) := if a0 ≥ 65 then (if a0 ≤ 90 then (some true) else (if a0 ≥ 48 then (some (decide (a0 ≤ 57))) else (some false))) else (if a0 ≥ 48 then (some (decide (a0 ≤ 57))) else (some false))
set_option maxHeartbeats 8000000 in
set_option maxRecDepth 100000 in
theorem call_letter.calls (a0 : Int) (r : Bool) (w : World) (h : call_letter.f a0 = some r) :
  Calls Tryd.prog 68 #[.int .u8 a0] w fun e w' => e = .returned (.bool r) ∧ Drawn0 w w' := by
 have H : (if a0 ≥ 65 then (if a0 ≤ 90 then (some true) else (if a0 ≥ 48 then (some (decide (a0 ≤ 57))) else (some false))) else (if a0 ≥ 48 then (some (decide (a0 ≤ 57))) else (some false))) = some r := h
 clear h
 by_cases c2 : a0 ≥ 65
 ·rw [if_pos c2] at H
  have c2b0 : decide (65 ≤ a0) = true := decide_eq_true c2
  clear c2
  by_cases c3 : a0 ≤ 90
  ·rw [if_pos c3] at H
   have c3b0 : decide (a0 ≤ 90) = true := decide_eq_true c3
   clear c3
   obtain rfl := Option.some.inj H
   go_enter Tryd.func68, Tryd.ntmps68
   go_wp2
   go_ret
   exact ⟨by first | rfl | (simp; done) | (simp [*]; done) | (simp; exact (fun l : List UInt8 => (by cases l <;> rfl : l.isEmpty = !(l != []))) _), by repeat (first | exact Drawn0.refl _ | apply Drawn0.step)⟩
  ·rw [if_neg c3] at H
   have c3b0 : decide (a0 ≤ 90) = false := decide_eq_false c3
   clear c3
   by_cases c4 : a0 ≥ 48
   ·rw [if_pos c4] at H
    have c4b0 : decide (48 ≤ a0) = true := decide_eq_true c4
    clear c4
    obtain rfl := Option.some.inj H
    go_enter Tryd.func68, Tryd.ntmps68
    go_wp2
    go_ret
    exact ⟨by first | rfl | (simp; done) | (simp [*]; done) | (simp; exact (fun l : List UInt8 => (by cases l <;> rfl : l.isEmpty = !(l != []))) _), by repeat (first | exact Drawn0.refl _ | apply Drawn0.step)⟩
   ·rw [if_neg c4] at H
    have c4b0 : decide (48 ≤ a0) = false := decide_eq_false c4
    clear c4
    obtain rfl := Option.some.inj H
    go_enter Tryd.func68, Tryd.ntmps68
    go_wp2
    go_ret
    exact ⟨by first | rfl | (simp; done) | (simp [*]; done) | (simp; exact (fun l : List UInt8 => (by cases l <;> rfl : l.isEmpty = !(l != []))) _), by repeat (first | exact Drawn0.refl _ | apply Drawn0.step)⟩
 ·rw [if_neg c2] at H
  have c2b0 : decide (65 ≤ a0) = false := decide_eq_false c2
  clear c2
  by_cases c5 : a0 ≥ 48
  ·rw [if_pos c5] at H
   have c5b0 : decide (48 ≤ a0) = true := decide_eq_true c5
   clear c5
   obtain rfl := Option.some.inj H
   go_enter Tryd.func68, Tryd.ntmps68
   go_wp2
   go_ret
   exact ⟨by first | rfl | (simp; done) | (simp [*]; done) | (simp; exact (fun l : List UInt8 => (by cases l <;> rfl : l.isEmpty = !(l != []))) _), by repeat (first | exact Drawn0.refl _ | apply Drawn0.step)⟩
  ·rw [if_neg c5] at H
   have c5b0 : decide (48 ≤ a0) = false := decide_eq_false c5
   clear c5
   obtain rfl := Option.some.inj H
   go_enter Tryd.func68, Tryd.ntmps68
   go_wp2
   go_ret
   exact ⟨by first | rfl | (simp; done) | (simp [*]; done) | (simp; exact (fun l : List UInt8 => (by cases l <;> rfl : l.isEmpty = !(l != []))) _), by repeat (first | exact Drawn0.refl _ | apply Drawn0.step)⟩

end Go.Proofs.YtpmieapgbdbabaaDoor.QAll
end

section
/- call.Right, walked by hand: it tells whether all bytes of the base are letters or digits, and the lengths and the number are in their ranges, for every call. -/
set_option linter.unusedVariables false
set_option linter.unusedSimpArgs false
namespace Go.Proofs.YtpmieapgbdbabaaDoor.QAll
open Go.RowKit Go.Proofs.YtpmieapgbdbabaaDoorW.PrintWords Go.Proofs.YtpmieapgbdbabaaDoorW.PrintLast Go.Proofs.YtpmieapgbdbabaaDoorW.PrintMore

/-- May the byte c stand in a call? -/
def letB (c : Int) : Bool := decide (65 ≤ c ∧ c ≤ 90 ∨ 48 ≤ c ∧ c ≤ 57)
theorem letter_f (c : Int) : call_letter.f c = some (letB c) := by
  unfold call_letter.f letB
  repeat' split
  all_goals (congr 1; first | exact decide_eq_decide.2 (by omega) | (symm; exact decide_eq_true (by omega)) | (symm; exact decide_eq_false (by omega)))
/-- All of the first k bytes are letters or digits. -/
def letsTo (s : ByteArray) (k : Nat) : Prop := ∀ j : Nat, j < k → letB (bt s j) = true
def letsB (s : ByteArray) : Bool := s.data.toList.all fun c => letB c.toNat
theorem bt_data (s : ByteArray) (j : Nat) (h : j < s.size) : bt s j = ((s.data.toList[j]'(by simpa using h)).toNat : Int) := by
  unfold bt
  rw [dif_pos (by simpa using h)]
  rfl
theorem letsB_true {s : ByteArray} (h : letsTo s s.size) : letsB s = true := by
  unfold letsB
  rw [List.all_eq_true]
  intro c hc
  obtain ⟨j, hj, rfl⟩ := List.getElem_of_mem hc
  have hj' : j < s.size := by simpa using hj
  have := h j hj'
  rw [bt_data s j hj'] at this
  exact this
theorem letsB_false {s : ByteArray} (k : Nat) (hk : k < s.size) (h : letB (bt s k) = false) : letsB s = false := by
  unfold letsB
  rw [List.all_eq_false]
  refine ⟨_, List.getElem_mem (by simpa using hk : k < s.data.toList.length), ?_⟩
  rw [bt_data s k hk] at h
  rw [h]
  decide
def rightB (s : ByteArray) (n : Int) : Bool := letsB s && (decide (1 ≤ s.size) && (decide (s.size ≤ 6) && (decide (0 ≤ n) && decide (n ≤ 15))))
def call_Right.f (a0_0 : ByteArray) (a0_1 : Int) : Option Bool := if a0_0.size ≤ 9223372036854775807 then some (rightB a0_0 a0_1) else none

set_option maxHeartbeats 1000000 in
set_option maxRecDepth 100000 in
theorem call_Right.calls (a0_0 : ByteArray) (a0_1 : Int) (r : Bool) (w : World) (h : call_Right.f a0_0 a0_1 = some r) :
    Calls Tryd.prog 40 #[.agg #[.string a0_0, .int .i64 a0_1]] w fun e w' => e = .returned (.bool r) ∧ Below w.heap.size w w' := by
  unfold call_Right.f at h
  split at h
  case isFalse => exact absurd h (by simp)
  rename_i hs
  have HR := Aside0.mk (Option.some.inj h)
  clear h
  have hu23 := Tryd.underlying23
  have kb := fun W => print_bytes (P := Tryd.prog) 9 104 5 Tryd.underlying9 Tryd.underlying104 Tryd.underlying5 a0_0 W
  go_enter Tryd.func40, Tryd.ntmps40
  go_wp2
  go_loopw [9] (fun i wr => ∃ k : Nat, k ≤ a0_0.size ∧ i = .int .i64 k ∧ Aside0 (letsTo a0_0 k) ∧ Aside0 (Below w.heap.size w wr) ∧ (wr.cell? ⟨w.heap.size, 0, none⟩ = some (.string a0_0)) ∧ (wr.cell? ⟨w.heap.size, 1, none⟩ = some (.int .i64 a0_1)) ∧
      Aside0 (∀ j : Nat, j < a0_0.size → wr.cell? ⟨w.heap.size + 1, j, none⟩ = some (.int .u8 (bt a0_0 j)))) (fun i _ => a0_0.size - (intOf i).toNat)
  case atStart =>
    refine ⟨0, Nat.zero_le _, rfl, ⟨fun j hj => absurd hj (by omega)⟩, ⟨?_⟩, ?_, ?_, ⟨?_⟩⟩
    · exact bytes_below ((Below.refl _ _).alloc (Nat.le_refl _) _) (by simp) _ _
    · rw [Lib.bytesWorld_old _ _ _ _ (by simp)]; simp
    · rw [Lib.bytesWorld_old _ _ _ _ (by simp)]; simp
    · intro j hj
      have z := Lib.bytesWorld_cell (w.alloc (Obj.cells #[Value.string a0_0, Value.int IntKind.i64 a0_1] 23)) 5 a0_0 j hj
      have e : (w.alloc (Obj.cells #[Value.string a0_0, Value.int IntKind.i64 a0_1] 23)).heap.size = w.heap.size + 1 := by simp
      rw [e] at z
      rw [z, bt_data a0_0 j hj, List.getD_eq_getElem?_getD, List.getElem?_eq_getElem (by simpa using hj)]
      rfl
  case round =>
    obtain ⟨k, hk, rfl, HL, HB, hc0, hc1, HC⟩ := hrel
    by_cases hlt : k < a0_0.size
    · have hcell := HC.out k hlt
      have hb := bt_range a0_0 k
      have hcb := Aside0.mk hb
      cases hl : letB (bt a0_0 k) with
      | true =>
        have HL1 := Aside0.mk hl
        clear hl hb
        go_wp2_with (go_at_call 68; (with_reducible refine (call_letter.calls (bt a0_0 k) true _ (by rw [letter_f, HL1.out])).mono ?_); rintro e w' ⟨rfl, ⟨nd, rfl⟩⟩)
        go_roundw
        case rel =>
          refine ⟨k + 1, by omega, by go_num, ⟨fun j hj => ?_⟩, ⟨pw_below_drewN HB.out _⟩, hc0, hc1, ⟨HC.out⟩⟩
          by_cases e : j = k
          · subst e; exact HL1.out
          · exact HL.out j (by omega)
        case measure => simp [intOf]; omega
      | false =>
        have HL1 := Aside0.mk hl
        clear hl hb
        go_wp2_with (go_at_call 68; (with_reducible refine (call_letter.calls (bt a0_0 k) false _ (by rw [letter_f, HL1.out])).mono ?_); rintro e w' ⟨rfl, ⟨nd, rfl⟩⟩)
        go_ret
        refine ⟨?_, pw_below_drewN HB.out _⟩
        have e : rightB a0_0 a0_1 = false := by unfold rightB; rw [letsB_false k hlt HL1.out, Bool.false_and]
        rw [← HR.out, e]; rfl
    · obtain rfl : k = a0_0.size := by omega
      have HX := Aside0.mk (show rightB a0_0 a0_1 = (decide (1 ≤ a0_0.size) && (decide (a0_0.size ≤ 6) && (decide (0 ≤ a0_1) && decide (a0_1 ≤ 15)))) by unfold rightB; rw [letsB_true HL.out, Bool.true_and])
      clear HL hk hlt
      by_cases h1 : 1 ≤ a0_0.size
      · by_cases h2 : a0_0.size ≤ 6
        · by_cases h3 : 0 ≤ a0_1
          · by_cases h4 : a0_1 ≤ 15
            · have HE := Aside0.mk (show rightB a0_0 a0_1 = true by rw [HX.out]; simp [h1, h2, h3, h4])
              go_wp2
              go_ret
              exact ⟨by rw [← HR.out, HE.out]; rfl, HB.out⟩
            · have HE := Aside0.mk (show rightB a0_0 a0_1 = false by rw [HX.out]; simp [h1, h2, h3, h4])
              go_wp2
              go_ret
              exact ⟨by rw [← HR.out, HE.out]; rfl, HB.out⟩
          · have HE := Aside0.mk (show rightB a0_0 a0_1 = false by rw [HX.out]; simp [h1, h2, h3])
            go_wp2
            go_ret
            exact ⟨by rw [← HR.out, HE.out]; rfl, HB.out⟩
        · have HE := Aside0.mk (show rightB a0_0 a0_1 = false by rw [HX.out]; simp [h1, h2])
          go_wp2
          go_ret
          exact ⟨by rw [← HR.out, HE.out]; rfl, HB.out⟩
      · have HE := Aside0.mk (show rightB a0_0 a0_1 = false by rw [HX.out]; simp [h1])
        go_wp2
        go_ret
        exact ⟨by rw [← HR.out, HE.out]; rfl, HB.out⟩
end Go.Proofs.YtpmieapgbdbabaaDoor.QAll
end

section
/- Walks, written by a program of this session (wip/pp): a Go function comes to what the Lean function beside it tells. -/
namespace Go.Proofs.YtpmieapgbdbabaaDoor.QAll
open Go.RowKit Go.Proofs.YtpmieapgbdbabaaDoorW.PrintWords Go.Proofs.YtpmieapgbdbabaaDoorW.PrintLast Go.Proofs.YtpmieapgbdbabaaDoorW.PrintMore
set_option linter.unusedVariables false
set_option linter.unusedSimpArgs false

def path_ordered.l0 : Nat → List (S93) → List (S93) → Int → Int → Option (Bool)
 | 0, _, _, _, _ => none
 | k + 1, x0, x5, x6, x7 => if x7 < x6 then (if 0 ≤ x7 then (if x7 < (x5.length : Int) then (if (rd_T93 x5 x7).f1 = true then (if x7 > 0 then (if 0 ≤ (wrap64 (x7 - 1)) then (if (wrap64 (x7 - 1)) < (x0.length : Int) then (if ((rd_T93 x0 (wrap64 (x7 - 1))).f1 = true) then (path_ordered.l0 k x0 x5 x6 (wrap64 (x7 + 1))) else (some false)) else (none)) else (none)) else (path_ordered.l0 k x0 x5 x6 (wrap64 (x7 + 1)))) else (path_ordered.l0 k x0 x5 x6 (wrap64 (x7 + 1)))) else (none)) else (none)) else (some (decide ((x0.length : Int) ≤ 8)))
def path_ordered.f (k : Nat) (l0 : List (S93)) : Option (Bool) := path_ordered.l0 k l0 l0 (l0.length : Int) 0
set_option maxHeartbeats 8000000 in
set_option maxRecDepth 100000 in
theorem path_ordered.calls (k : Nat) (A0 : Option Addr) (c0 : Nat) (l0 : List (S93)) (r : Bool) (w : World) (hr0 : Kd.C k93 w A0 l0.length l0) (hc0 : l0.length ≤ c0) (h : path_ordered.f k l0 = some r) :
  Calls Tryd.prog 63 #[.slice A0 l0.length c0] w fun e w' => e = .returned (.bool r) ∧ Below w.heap.size w w' := by
 have hu93 := Tryd.underlying93
 have HR0 := Aside0.mk hr0
 have HC0 := Aside0.mk hc0
 clear hr0 hc0
 have HB := Aside0.mk (Below.refl w.heap.size w)
 have H : (path_ordered.l0 k l0 l0 (l0.length : Int) 0) = some r := h
 clear h
 have H' := Aside0.mk H
 clear H
 go_enter Tryd.func63, Tryd.ntmps63
 go_wp2
 go_loopg [7] k (fun kq v7 w' => ∃ (x7_1 : Int), v7 = .int .i64 x7_1 ∧ Aside0 (path_ordered.l0 kq l0 l0 (l0.length : Int) x7_1 = some r) ∧ Aside0 (kq ≤ k) ∧ Aside0 (Below w.heap.size w w'))
 case atStart => exact ⟨(0), (by first | rfl | (simp; done) | (simp [*]; done) | (simp; exact (fun l : List UInt8 => (by cases l <;> rfl : l.isEmpty = !(l != []))) _)), H', ⟨Nat.le_refl _⟩, ⟨by repeat (first | (with_reducible first | exact HB.out | apply below_alloc | apply pw_below_drewN | apply below_drew1) | exact HB.out)⟩⟩
 case round =>
  clear H'
  obtain ⟨x7_1, rfl, HA, HK1, HB⟩ := hrel
  cases gk with
  | zero => exact absurd HA.out (by simp [path_ordered.l0])
  | succ k1 =>
   have H := HA.out
   clear HA
   simp only [path_ordered.l0] at H
   by_cases c2 : x7_1 < (l0.length : Int)
   ·rw [if_pos c2] at H
    have c2b0 : decide (x7_1 < (l0.length : Int)) = true := decide_eq_true c2
    clear c2
    by_cases c3 : 0 ≤ x7_1
    ·rw [if_pos c3] at H
     have c3b0 : decide (0 ≤ x7_1) = true := decide_eq_true c3
     clear c3
     by_cases c4 : x7_1 < (l0.length : Int)
     ·rw [if_pos c4] at H
      have c4b0 : decide (x7_1 < (l0.length : Int)) = true := decide_eq_true c4
      clear c4
      obtain ⟨bq5, hbq5⟩ : ∃ b_ : Bool, b_ = ((rd_T93 l0 x7_1).f1) := ⟨_, rfl⟩
      replace H : (if bq5 = true then (if x7_1 > 0 then (if 0 ≤ (wrap64 (x7_1 - 1)) then (if (wrap64 (x7_1 - 1)) < (l0.length : Int) then (if ((rd_T93 l0 (wrap64 (x7_1 - 1))).f1 = true) then (path_ordered.l0 k1 l0 l0 (l0.length : Int) (wrap64 (x7_1 + 1))) else (some false)) else (none)) else (none)) else (path_ordered.l0 k1 l0 l0 (l0.length : Int) (wrap64 (x7_1 + 1)))) else (path_ordered.l0 k1 l0 l0 (l0.length : Int) (wrap64 (x7_1 + 1)))) = some r := by rw [← hbq5] at H; exact H
      have Nbq5 := Aside0.mk hbq5
      clear hbq5
      by_cases c6 : bq5 = true
      ·subst c6
       have H1 : (if x7_1 > 0 then (if 0 ≤ (wrap64 (x7_1 - 1)) then (if (wrap64 (x7_1 - 1)) < (l0.length : Int) then (if ((rd_T93 l0 (wrap64 (x7_1 - 1))).f1 = true) then (path_ordered.l0 k1 l0 l0 (l0.length : Int) (wrap64 (x7_1 + 1))) else (some false)) else (none)) else (none)) else (path_ordered.l0 k1 l0 l0 (l0.length : Int) (wrap64 (x7_1 + 1)))) = some r := by rw [if_pos rfl] at H; exact H
       clear H
       have H := H1
       clear H1
       by_cases c7 : x7_1 > 0
       ·rw [if_pos c7] at H
        have c7b0 : decide (0 < x7_1) = true := decide_eq_true c7
        clear c7
        obtain ⟨ji8, hji8⟩ : ∃ j_ : Int, (wrap64 (x7_1 - 1)) = j_ := ⟨_, rfl⟩
        replace H : (if 0 ≤ (ji8) then (if (ji8) < (l0.length : Int) then (if ((rd_T93 l0 (ji8)).f1 = true) then (path_ordered.l0 k1 l0 l0 (l0.length : Int) (wrap64 (x7_1 + 1))) else (some false)) else (none)) else (none)) = some r := by first | (rw [hji8] at H; exact H) | (simp only [hji8] at H ⊢; exact H)
        have hji8w : (IntKind.i64.wrap (x7_1 - 1)) = ji8 := (i64_w _).trans hji8
        by_cases c9 : 0 ≤ (ji8)
        ·rw [if_pos c9] at H
         have c9b0 : decide (0 ≤ (ji8)) = true := decide_eq_true c9
         clear c9
         by_cases c10 : (ji8) < (l0.length : Int)
         ·rw [if_pos c10] at H
          have c10b0 : decide ((ji8) < (l0.length : Int)) = true := decide_eq_true c10
          clear c10
          obtain ⟨bq11, hbq11⟩ : ∃ b_ : Bool, b_ = ((rd_T93 l0 (ji8)).f1) := ⟨_, rfl⟩
          replace H : (if (bq11 = true) then (path_ordered.l0 k1 l0 l0 (l0.length : Int) (wrap64 (x7_1 + 1))) else (some false)) = some r := by rw [← hbq11] at H; exact H
          have Nbq11 := Aside0.mk hbq11
          clear hbq11
          by_cases c12 : (bq11 = true)
          ·subst c12
           have H1 : (path_ordered.l0 k1 l0 l0 (l0.length : Int) (wrap64 (x7_1 + 1))) = some r := by rw [if_pos rfl] at H; exact H
           clear H
           have H := H1
           clear H1
           have H' := Aside0.mk H
           clear H
           have p113 : 0 ≤ (x7_1 : Int) := of_decide_eq_true (by first | (with_reducible assumption) | assumption)
           have q113 : x7_1 < (l0.length : Int) := of_decide_eq_true (by first | (with_reducible assumption) | assumption)
           obtain ⟨ad113, e113, hx113_0, hx113_1, hx113_2⟩ := at_T93 HR0.out x7_1 p113 q113
           (try rw [← Nbq5.out] at hx113_2)
           (try rw [← Nbq11.out] at hx113_2)
           cases e113
           replace hx113_0 := (HB.out.cell (World.block_lt_of_cell? w _ hx113_0)).trans hx113_0
           replace hx113_1 := (HB.out.cell (World.block_lt_of_cell? w _ hx113_1)).trans hx113_1
           replace hx113_2 := (HB.out.cell (World.block_lt_of_cell? w _ hx113_2)).trans hx113_2
           replace p113 := eq_true p113
           replace q113 := eq_true q113
           go_wp2_with (first | ((with_reducible refine gate_dst (N := 4) rfl ?_); refine box_event ?hg (N := 4) ?hd (cs := #[.string (⟨#[]⟩ : ByteArray), .int .i64 0, .bool false]) (t := 93) ?hr ?_; (case hd => rfl); (case hg => rfl); (case hr => first | (go_simp; done) | (go_simp; rfl)); intro gb114 hg w13 hbox hb; have n0_ := Aside0.mk (below_step (by repeat (first | (with_reducible first | exact HB.out | apply below_alloc | apply pw_below_drewN | apply below_drew1) | exact HB.out)) hb); have n1_ := Aside0.mk (hbox); have n2_ := Aside0.mk ((by rw [hg]; exact (below_size (by repeat (first | (with_reducible first | exact HB.out | apply below_alloc | apply pw_below_drewN | apply below_drew1) | exact HB.out))) : w.heap.size ≤ gb114)); have n3_ := Aside0.mk ((by rw [hg]; exact (below_size (by repeat (first | (with_reducible first | exact HB.out | apply below_alloc | apply pw_below_drewN | apply below_drew1) | exact HB.out))) : w.heap.size ≤ gb114)); clear HB; have HB := n0_; have BK114 := n1_; have GW114 := n2_; have GE114 := n3_; clear n0_ n1_ n2_ n3_; clear hb hbox hg; have hcz14_0 : w13.cell? ⟨gb114, 0, none⟩ = some (.string (⟨#[]⟩ : ByteArray)) := (blk_cell BK114.out 0).trans rfl; have hcz14_1 : w13.cell? ⟨gb114, 1, none⟩ = some (.int .i64 0) := (blk_cell BK114.out 1).trans rfl; have hcz14_2 : w13.cell? ⟨gb114, 2, none⟩ = some (.bool false) := (blk_cell BK114.out 2).trans rfl; have hfz14_0 := blk_frozen BK114.out 0; have hfz14_1 := blk_frozen BK114.out 1; have hfz14_2 := blk_frozen BK114.out 2; have p115 : 0 ≤ ((ji8) : Int) := of_decide_eq_true (by first | (with_reducible assumption) | assumption); have q115 : (ji8) < (l0.length : Int) := of_decide_eq_true (by first | (with_reducible assumption) | assumption); obtain ⟨ad115, e115, hx115_0, hx115_1, hx115_2⟩ := at_T93 HR0.out (ji8) p115 q115; (try rw [← Nbq5.out] at hx115_2); (try rw [← Nbq11.out] at hx115_2); obtain rfl : ad113 = ad115 := (by injection e115); have hn115_0 : ad113.block ≠ gb114 := Nat.ne_of_lt (Nat.lt_of_lt_of_le (by have := World.block_lt_of_cell? _ _ hx115_0; first | rwa [add_block] at this | exact this) GW114.out); have hn115_1 : ad113.block ≠ gb114 := Nat.ne_of_lt (Nat.lt_of_lt_of_le (by have := World.block_lt_of_cell? _ _ hx115_0; first | rwa [add_block] at this | exact this) GW114.out); have hn115_2 : ad113.block ≠ gb114 := Nat.ne_of_lt (Nat.lt_of_lt_of_le (by have := World.block_lt_of_cell? _ _ hx115_0; first | rwa [add_block] at this | exact this) GW114.out); replace hx115_0 := (HB.out.cell (World.block_lt_of_cell? w _ hx115_0)).trans hx115_0; replace hx115_1 := (HB.out.cell (World.block_lt_of_cell? w _ hx115_1)).trans hx115_1; replace hx115_2 := (HB.out.cell (World.block_lt_of_cell? w _ hx115_2)).trans hx115_2; replace hx115_0 := (cell_far (p := ⟨gb114, 0, none⟩) (by first | (rw [add_block]; exact hn115_0) | (show (Addr.add _ _).block ≠ _; rw [add_block]; exact hn115_0) | exact hn115_0) (.string ((rd_T93 l0 x7_1).f0.f0))).trans hx115_0; replace hx115_1 := (cell_far (p := ⟨gb114, 0, none⟩) (by first | (rw [add_block]; exact hn115_0) | (show (Addr.add _ _).block ≠ _; rw [add_block]; exact hn115_0) | exact hn115_0) (.string ((rd_T93 l0 x7_1).f0.f0))).trans hx115_1; replace hx115_2 := (cell_far (p := ⟨gb114, 0, none⟩) (by first | (rw [add_block]; exact hn115_0) | (show (Addr.add _ _).block ≠ _; rw [add_block]; exact hn115_0) | exact hn115_0) (.string ((rd_T93 l0 x7_1).f0.f0))).trans hx115_2; replace hx115_0 := (cell_far (p := ⟨gb114, 1, none⟩) (by first | (rw [add_block]; exact hn115_1) | (show (Addr.add _ _).block ≠ _; rw [add_block]; exact hn115_1) | exact hn115_1) (.int .i64 ((rd_T93 l0 x7_1).f0.f1))).trans hx115_0; replace hx115_1 := (cell_far (p := ⟨gb114, 1, none⟩) (by first | (rw [add_block]; exact hn115_1) | (show (Addr.add _ _).block ≠ _; rw [add_block]; exact hn115_1) | exact hn115_1) (.int .i64 ((rd_T93 l0 x7_1).f0.f1))).trans hx115_1; replace hx115_2 := (cell_far (p := ⟨gb114, 1, none⟩) (by first | (rw [add_block]; exact hn115_1) | (show (Addr.add _ _).block ≠ _; rw [add_block]; exact hn115_1) | exact hn115_1) (.int .i64 ((rd_T93 l0 x7_1).f0.f1))).trans hx115_2; replace hx115_0 := (cell_far (p := ⟨gb114, 2, none⟩) (by first | (rw [add_block]; exact hn115_2) | (show (Addr.add _ _).block ≠ _; rw [add_block]; exact hn115_2) | exact hn115_2) (.bool true)).trans hx115_0; replace hx115_1 := (cell_far (p := ⟨gb114, 2, none⟩) (by first | (rw [add_block]; exact hn115_2) | (show (Addr.add _ _).block ≠ _; rw [add_block]; exact hn115_2) | exact hn115_2) (.bool true)).trans hx115_1; replace hx115_2 := (cell_far (p := ⟨gb114, 2, none⟩) (by first | (rw [add_block]; exact hn115_2) | (show (Addr.add _ _).block ≠ _; rw [add_block]; exact hn115_2) | exact hn115_2) (.bool true)).trans hx115_2; clear hn115_0; clear hn115_1; clear hn115_2; replace p115 := eq_true p115; replace q115 := eq_true q115))
           go_roundg k1
           case measure => have := HK1.out; omega
           case rel => exact ⟨(wrap64 (x7_1 + 1)), (by first | rfl | (simp; done) | (simp [*]; done) | (simp; exact (fun l : List UInt8 => (by cases l <;> rfl : l.isEmpty = !(l != []))) _)), H', ⟨by have := HK1.out; omega⟩, ⟨by repeat (first | (with_reducible first | exact HB.out | apply below_alloc | apply pw_below_drewN | apply below_drew1 | refine below_set ?_ GE114.out) | exact HB.out)⟩⟩
          ·replace c12 := Bool.eq_false_iff.mpr c12
           subst c12
           have H1 : (some false) = some r := by rw [if_neg (show ¬ (false = true) by decide)] at H; exact H
           clear H
           have H := H1
           clear H1
           obtain rfl := Option.some.inj H
           have p113 : 0 ≤ (x7_1 : Int) := of_decide_eq_true (by first | (with_reducible assumption) | assumption)
           have q113 : x7_1 < (l0.length : Int) := of_decide_eq_true (by first | (with_reducible assumption) | assumption)
           obtain ⟨ad113, e113, hx113_0, hx113_1, hx113_2⟩ := at_T93 HR0.out x7_1 p113 q113
           (try rw [← Nbq5.out] at hx113_2)
           (try rw [← Nbq11.out] at hx113_2)
           cases e113
           replace hx113_0 := (HB.out.cell (World.block_lt_of_cell? w _ hx113_0)).trans hx113_0
           replace hx113_1 := (HB.out.cell (World.block_lt_of_cell? w _ hx113_1)).trans hx113_1
           replace hx113_2 := (HB.out.cell (World.block_lt_of_cell? w _ hx113_2)).trans hx113_2
           replace p113 := eq_true p113
           replace q113 := eq_true q113
           go_wp2_with (first | ((with_reducible refine gate_dst (N := 4) rfl ?_); refine box_event ?hg (N := 4) ?hd (cs := #[.string (⟨#[]⟩ : ByteArray), .int .i64 0, .bool false]) (t := 93) ?hr ?_; (case hd => rfl); (case hg => rfl); (case hr => first | (go_simp; done) | (go_simp; rfl)); intro gb114 hg w15 hbox hb; have n0_ := Aside0.mk (below_step (by repeat (first | (with_reducible first | exact HB.out | apply below_alloc | apply pw_below_drewN | apply below_drew1) | exact HB.out)) hb); have n1_ := Aside0.mk (hbox); have n2_ := Aside0.mk ((by rw [hg]; exact (below_size (by repeat (first | (with_reducible first | exact HB.out | apply below_alloc | apply pw_below_drewN | apply below_drew1) | exact HB.out))) : w.heap.size ≤ gb114)); have n3_ := Aside0.mk ((by rw [hg]; exact (below_size (by repeat (first | (with_reducible first | exact HB.out | apply below_alloc | apply pw_below_drewN | apply below_drew1) | exact HB.out))) : w.heap.size ≤ gb114)); clear HB; have HB := n0_; have BK114 := n1_; have GW114 := n2_; have GE114 := n3_; clear n0_ n1_ n2_ n3_; clear hb hbox hg; have hcz16_0 : w15.cell? ⟨gb114, 0, none⟩ = some (.string (⟨#[]⟩ : ByteArray)) := (blk_cell BK114.out 0).trans rfl; have hcz16_1 : w15.cell? ⟨gb114, 1, none⟩ = some (.int .i64 0) := (blk_cell BK114.out 1).trans rfl; have hcz16_2 : w15.cell? ⟨gb114, 2, none⟩ = some (.bool false) := (blk_cell BK114.out 2).trans rfl; have hfz16_0 := blk_frozen BK114.out 0; have hfz16_1 := blk_frozen BK114.out 1; have hfz16_2 := blk_frozen BK114.out 2; have p115 : 0 ≤ ((ji8) : Int) := of_decide_eq_true (by first | (with_reducible assumption) | assumption); have q115 : (ji8) < (l0.length : Int) := of_decide_eq_true (by first | (with_reducible assumption) | assumption); obtain ⟨ad115, e115, hx115_0, hx115_1, hx115_2⟩ := at_T93 HR0.out (ji8) p115 q115; (try rw [← Nbq5.out] at hx115_2); (try rw [← Nbq11.out] at hx115_2); obtain rfl : ad113 = ad115 := (by injection e115); have hn115_0 : ad113.block ≠ gb114 := Nat.ne_of_lt (Nat.lt_of_lt_of_le (by have := World.block_lt_of_cell? _ _ hx115_0; first | rwa [add_block] at this | exact this) GW114.out); have hn115_1 : ad113.block ≠ gb114 := Nat.ne_of_lt (Nat.lt_of_lt_of_le (by have := World.block_lt_of_cell? _ _ hx115_0; first | rwa [add_block] at this | exact this) GW114.out); have hn115_2 : ad113.block ≠ gb114 := Nat.ne_of_lt (Nat.lt_of_lt_of_le (by have := World.block_lt_of_cell? _ _ hx115_0; first | rwa [add_block] at this | exact this) GW114.out); replace hx115_0 := (HB.out.cell (World.block_lt_of_cell? w _ hx115_0)).trans hx115_0; replace hx115_1 := (HB.out.cell (World.block_lt_of_cell? w _ hx115_1)).trans hx115_1; replace hx115_2 := (HB.out.cell (World.block_lt_of_cell? w _ hx115_2)).trans hx115_2; replace hx115_0 := (cell_far (p := ⟨gb114, 0, none⟩) (by first | (rw [add_block]; exact hn115_0) | (show (Addr.add _ _).block ≠ _; rw [add_block]; exact hn115_0) | exact hn115_0) (.string ((rd_T93 l0 x7_1).f0.f0))).trans hx115_0; replace hx115_1 := (cell_far (p := ⟨gb114, 0, none⟩) (by first | (rw [add_block]; exact hn115_0) | (show (Addr.add _ _).block ≠ _; rw [add_block]; exact hn115_0) | exact hn115_0) (.string ((rd_T93 l0 x7_1).f0.f0))).trans hx115_1; replace hx115_2 := (cell_far (p := ⟨gb114, 0, none⟩) (by first | (rw [add_block]; exact hn115_0) | (show (Addr.add _ _).block ≠ _; rw [add_block]; exact hn115_0) | exact hn115_0) (.string ((rd_T93 l0 x7_1).f0.f0))).trans hx115_2; replace hx115_0 := (cell_far (p := ⟨gb114, 1, none⟩) (by first | (rw [add_block]; exact hn115_1) | (show (Addr.add _ _).block ≠ _; rw [add_block]; exact hn115_1) | exact hn115_1) (.int .i64 ((rd_T93 l0 x7_1).f0.f1))).trans hx115_0; replace hx115_1 := (cell_far (p := ⟨gb114, 1, none⟩) (by first | (rw [add_block]; exact hn115_1) | (show (Addr.add _ _).block ≠ _; rw [add_block]; exact hn115_1) | exact hn115_1) (.int .i64 ((rd_T93 l0 x7_1).f0.f1))).trans hx115_1; replace hx115_2 := (cell_far (p := ⟨gb114, 1, none⟩) (by first | (rw [add_block]; exact hn115_1) | (show (Addr.add _ _).block ≠ _; rw [add_block]; exact hn115_1) | exact hn115_1) (.int .i64 ((rd_T93 l0 x7_1).f0.f1))).trans hx115_2; replace hx115_0 := (cell_far (p := ⟨gb114, 2, none⟩) (by first | (rw [add_block]; exact hn115_2) | (show (Addr.add _ _).block ≠ _; rw [add_block]; exact hn115_2) | exact hn115_2) (.bool true)).trans hx115_0; replace hx115_1 := (cell_far (p := ⟨gb114, 2, none⟩) (by first | (rw [add_block]; exact hn115_2) | (show (Addr.add _ _).block ≠ _; rw [add_block]; exact hn115_2) | exact hn115_2) (.bool true)).trans hx115_1; replace hx115_2 := (cell_far (p := ⟨gb114, 2, none⟩) (by first | (rw [add_block]; exact hn115_2) | (show (Addr.add _ _).block ≠ _; rw [add_block]; exact hn115_2) | exact hn115_2) (.bool true)).trans hx115_2; clear hn115_0; clear hn115_1; clear hn115_2; replace p115 := eq_true p115; replace q115 := eq_true q115))
           go_ret
           exact ⟨by first | rfl | (simp [errW_none, errW_some] <;> rfl) | (simp only [← hji8]; first | rfl | (simp [errW_none, errW_some] <;> rfl)) | (simp [*, errW_none, errW_some] <;> rfl), by repeat (first | (with_reducible first | exact HB.out | apply below_alloc | apply pw_below_drewN | apply below_drew1 | refine below_set ?_ GE114.out) | exact HB.out)⟩
         ·rw [if_neg c10] at H
          exact absurd H (by simp)
        ·rw [if_neg c9] at H
         exact absurd H (by simp)
       ·rw [if_neg c7] at H
        have c7b0 : decide (0 < x7_1) = false := decide_eq_false c7
        clear c7
        have H' := Aside0.mk H
        clear H
        have p113 : 0 ≤ (x7_1 : Int) := of_decide_eq_true (by first | (with_reducible assumption) | assumption)
        have q113 : x7_1 < (l0.length : Int) := of_decide_eq_true (by first | (with_reducible assumption) | assumption)
        obtain ⟨ad113, e113, hx113_0, hx113_1, hx113_2⟩ := at_T93 HR0.out x7_1 p113 q113
        (try rw [← Nbq5.out] at hx113_2)
        cases e113
        replace hx113_0 := (HB.out.cell (World.block_lt_of_cell? w _ hx113_0)).trans hx113_0
        replace hx113_1 := (HB.out.cell (World.block_lt_of_cell? w _ hx113_1)).trans hx113_1
        replace hx113_2 := (HB.out.cell (World.block_lt_of_cell? w _ hx113_2)).trans hx113_2
        replace p113 := eq_true p113
        replace q113 := eq_true q113
        go_wp2_with (first | ((with_reducible refine gate_dst (N := 4) rfl ?_); refine box_event ?hg (N := 4) ?hd (cs := #[.string (⟨#[]⟩ : ByteArray), .int .i64 0, .bool false]) (t := 93) ?hr ?_; (case hd => rfl); (case hg => rfl); (case hr => first | (go_simp; done) | (go_simp; rfl)); intro gb114 hg w17 hbox hb; have n0_ := Aside0.mk (below_step (by repeat (first | (with_reducible first | exact HB.out | apply below_alloc | apply pw_below_drewN | apply below_drew1) | exact HB.out)) hb); have n1_ := Aside0.mk (hbox); have n2_ := Aside0.mk ((by rw [hg]; exact (below_size (by repeat (first | (with_reducible first | exact HB.out | apply below_alloc | apply pw_below_drewN | apply below_drew1) | exact HB.out))) : w.heap.size ≤ gb114)); have n3_ := Aside0.mk ((by rw [hg]; exact (below_size (by repeat (first | (with_reducible first | exact HB.out | apply below_alloc | apply pw_below_drewN | apply below_drew1) | exact HB.out))) : w.heap.size ≤ gb114)); clear HB; have HB := n0_; have BK114 := n1_; have GW114 := n2_; have GE114 := n3_; clear n0_ n1_ n2_ n3_; clear hb hbox hg; have hcz18_0 : w17.cell? ⟨gb114, 0, none⟩ = some (.string (⟨#[]⟩ : ByteArray)) := (blk_cell BK114.out 0).trans rfl; have hcz18_1 : w17.cell? ⟨gb114, 1, none⟩ = some (.int .i64 0) := (blk_cell BK114.out 1).trans rfl; have hcz18_2 : w17.cell? ⟨gb114, 2, none⟩ = some (.bool false) := (blk_cell BK114.out 2).trans rfl; have hfz18_0 := blk_frozen BK114.out 0; have hfz18_1 := blk_frozen BK114.out 1; have hfz18_2 := blk_frozen BK114.out 2))
        go_roundg k1
        case measure => have := HK1.out; omega
        case rel => exact ⟨(wrap64 (x7_1 + 1)), (by first | rfl | (simp; done) | (simp [*]; done) | (simp; exact (fun l : List UInt8 => (by cases l <;> rfl : l.isEmpty = !(l != []))) _)), H', ⟨by have := HK1.out; omega⟩, ⟨by repeat (first | (with_reducible first | exact HB.out | apply below_alloc | apply pw_below_drewN | apply below_drew1 | refine below_set ?_ GE114.out) | exact HB.out)⟩⟩
      ·replace c6 := Bool.eq_false_iff.mpr c6
       subst c6
       have H1 : (path_ordered.l0 k1 l0 l0 (l0.length : Int) (wrap64 (x7_1 + 1))) = some r := by rw [if_neg (show ¬ (false = true) by decide)] at H; exact H
       clear H
       have H := H1
       clear H1
       have H' := Aside0.mk H
       clear H
       have p113 : 0 ≤ (x7_1 : Int) := of_decide_eq_true (by first | (with_reducible assumption) | assumption)
       have q113 : x7_1 < (l0.length : Int) := of_decide_eq_true (by first | (with_reducible assumption) | assumption)
       obtain ⟨ad113, e113, hx113_0, hx113_1, hx113_2⟩ := at_T93 HR0.out x7_1 p113 q113
       (try rw [← Nbq5.out] at hx113_2)
       cases e113
       replace hx113_0 := (HB.out.cell (World.block_lt_of_cell? w _ hx113_0)).trans hx113_0
       replace hx113_1 := (HB.out.cell (World.block_lt_of_cell? w _ hx113_1)).trans hx113_1
       replace hx113_2 := (HB.out.cell (World.block_lt_of_cell? w _ hx113_2)).trans hx113_2
       replace p113 := eq_true p113
       replace q113 := eq_true q113
       go_wp2_with (first | ((with_reducible refine gate_dst (N := 4) rfl ?_); refine box_event ?hg (N := 4) ?hd (cs := #[.string (⟨#[]⟩ : ByteArray), .int .i64 0, .bool false]) (t := 93) ?hr ?_; (case hd => rfl); (case hg => rfl); (case hr => first | (go_simp; done) | (go_simp; rfl)); intro gb114 hg w19 hbox hb; have n0_ := Aside0.mk (below_step (by repeat (first | (with_reducible first | exact HB.out | apply below_alloc | apply pw_below_drewN | apply below_drew1) | exact HB.out)) hb); have n1_ := Aside0.mk (hbox); have n2_ := Aside0.mk ((by rw [hg]; exact (below_size (by repeat (first | (with_reducible first | exact HB.out | apply below_alloc | apply pw_below_drewN | apply below_drew1) | exact HB.out))) : w.heap.size ≤ gb114)); have n3_ := Aside0.mk ((by rw [hg]; exact (below_size (by repeat (first | (with_reducible first | exact HB.out | apply below_alloc | apply pw_below_drewN | apply below_drew1) | exact HB.out))) : w.heap.size ≤ gb114)); clear HB; have HB := n0_; have BK114 := n1_; have GW114 := n2_; have GE114 := n3_; clear n0_ n1_ n2_ n3_; clear hb hbox hg; have hcz20_0 : w19.cell? ⟨gb114, 0, none⟩ = some (.string (⟨#[]⟩ : ByteArray)) := (blk_cell BK114.out 0).trans rfl; have hcz20_1 : w19.cell? ⟨gb114, 1, none⟩ = some (.int .i64 0) := (blk_cell BK114.out 1).trans rfl; have hcz20_2 : w19.cell? ⟨gb114, 2, none⟩ = some (.bool false) := (blk_cell BK114.out 2).trans rfl; have hfz20_0 := blk_frozen BK114.out 0; have hfz20_1 := blk_frozen BK114.out 1; have hfz20_2 := blk_frozen BK114.out 2))
       go_roundg k1
       case measure => have := HK1.out; omega
       case rel => exact ⟨(wrap64 (x7_1 + 1)), (by first | rfl | (simp; done) | (simp [*]; done) | (simp; exact (fun l : List UInt8 => (by cases l <;> rfl : l.isEmpty = !(l != []))) _)), H', ⟨by have := HK1.out; omega⟩, ⟨by repeat (first | (with_reducible first | exact HB.out | apply below_alloc | apply pw_below_drewN | apply below_drew1 | refine below_set ?_ GE114.out) | exact HB.out)⟩⟩
     ·rw [if_neg c4] at H
      exact absurd H (by simp)
    ·rw [if_neg c3] at H
     exact absurd H (by simp)
   ·rw [if_neg c2] at H
    have c2b0 : decide (x7_1 < (l0.length : Int)) = false := decide_eq_false c2
    clear c2
    obtain rfl := Option.some.inj H
    go_wp2
    go_ret
    exact ⟨by first | rfl | (simp [errW_none, errW_some] <;> rfl) | (simp [*, errW_none, errW_some] <;> rfl), by repeat (first | (with_reducible first | exact HB.out | apply below_alloc | apply pw_below_drewN | apply below_drew1) | exact HB.out)⟩

end Go.Proofs.YtpmieapgbdbabaaDoor.QAll
end

section
/- path.Right, walked by hand: is a path right? -/
set_option linter.unusedVariables false
set_option linter.unusedSimpArgs false
namespace Go.Proofs.YtpmieapgbdbabaaDoor.QAll
open Go.RowKit Go.Proofs.YtpmieapgbdbabaaDoorW.PrintWords Go.Proofs.YtpmieapgbdbabaaDoorW.PrintLast Go.Proofs.YtpmieapgbdbabaaDoorW.PrintMore

def rightD (d : S93) : Bool := rightB d.f0.f0 d.f0.f1
set_option maxHeartbeats 1000000 in
set_option maxRecDepth 100000 in
theorem wrong_one (d : S93) (w : World) (hs : d.f0.f0.size ≤ 9223372036854775807) : Calls Tryd.prog 61 #[.agg #[.string d.f0.f0, .int .i64 d.f0.f1, .bool d.f1]] w fun e w' => e = .returned (.bool (!rightD d)) ∧ Below w.heap.size w w' := by
  have hu93 := Tryd.underlying93
  have hu23 := Tryd.underlying23
  go_enter Tryd.func61, Tryd.ntmps61
  go_wp2_with (fail)
  refine (call_Right.calls d.f0.f0 d.f0.f1 (rightD d) _ (by unfold call_Right.f; rw [if_pos hs]; rfl)).mono ?_
  rintro e w1 ⟨rfl, hb⟩
  go_wp2
  go_ret
  exact ⟨rfl, below_then ((Below.refl _ _).alloc (Nat.le_refl _) _) (by simp) hb⟩
/-- The first that is not right. -/
def wrongFrom : Nat → List S93 → Int
  | _, [] => -1
  | i, d :: r => if rightD d = true then wrongFrom (i + 1) r else i
def wrongI (l : List S93) : Int := wrongFrom 0 l
set_option maxHeartbeats 1000000 in
set_option maxRecDepth 100000 in
theorem index_wrong (A : Option Addr) (c : Nat) (l : List S93) (w : World) (hr : Kd.C k93 w A l.length l) (hl : l.length ≤ 1000000) (hs : ∀ d ∈ l, d.f0.f0.size ≤ 9223372036854775807) :
    Calls Tryd.prog 87 #[.slice A l.length c, .func (.func 61) #[] #[]] w fun e w' => e = .returned (.int .i64 (wrongI l)) ∧ Below w.heap.size w w' := by
  have HR := Aside0.mk hr
  have HS := Aside0.mk (show ∀ k : Nat, k < l.length → (rd_T93 l k).f0.f0.size ≤ 9223372036854775807 from fun k hk => hs _ (by unfold rd_T93; rw [Int.toNat_natCast, List.getD_eq_getElem?_getD, List.getElem?_eq_getElem hk]; exact List.getElem_mem hk))
  clear hs
  clear hr
  go_enter Tryd.func87, Tryd.ntmps87
  go_wp2
  go_loopw [8] (fun v8 wr => ∃ k : Nat, k ≤ l.length ∧ v8 = .int .i64 k ∧ Aside0 (wrongI l = wrongFrom k (l.drop k)) ∧ Aside0 (Below w.heap.size w wr)) (fun v8 _ => l.length - (intOf v8).toNat)
  case atStart => exact ⟨0, Nat.zero_le _, rfl, ⟨by rw [List.drop_zero]; rfl⟩, ⟨Below.refl _ _⟩⟩
  case round =>
    obtain ⟨k, hk, rfl, HN, HB⟩ := hrel
    by_cases hlt : k < l.length
    · obtain ⟨ad, rfl, x0, x1, x2⟩ := at_T93 HR.out k (by omega) (by omega)
      replace x0 := (HB.out.cell (World.block_lt_of_cell? w _ x0)).trans x0
      replace x1 := (HB.out.cell (World.block_lt_of_cell? w _ x1)).trans x1
      replace x2 := (HB.out.cell (World.block_lt_of_cell? w _ x2)).trans x2
      simp only [Int.toNat_natCast] at x0 x1 x2
      go_wp2_with (go_at_call 61; (with_reducible refine (wrong_one (rd_T93 l k) _ (HS.out k hlt)).mono ?_); rintro e w1 ⟨rfl, hb⟩)
      · rename_i hc
        have hc' : rightD (rd_T93 l k) = false := by simpa using hc
        go_ret
        refine ⟨?_, below_then HB.out HB.out.size hb⟩
        rw [HN.out, drop_T93 l k hlt]
        unfold wrongFrom
        rw [if_neg (by rw [hc']; simp)]
        rfl
      · rename_i hc
        have hc' : rightD (rd_T93 l k) = true := by simpa using hc
        refine ⟨⟨k + 1, by omega, by go_num, ⟨?_⟩, ⟨below_then HB.out HB.out.size hb⟩⟩, by simp [intOf]; omega⟩
        rw [HN.out, drop_T93 l k hlt]
        conv => lhs; unfold wrongFrom
        rw [if_pos hc']
    · obtain rfl : k = l.length := by omega
      go_wp2
      go_ret
      refine ⟨?_, HB.out⟩
      rw [HN.out, List.drop_length]
      rfl

theorem wrongFrom_all : ∀ (l : List S93) (i : Nat), (decide (wrongFrom i l ≥ 0)) = !(l.all rightD)
  | [], i => by simp [wrongFrom]
  | d :: r, i => by
    unfold wrongFrom
    by_cases h : rightD d = true
    · rw [if_pos h, wrongFrom_all r (i + 1)]; simp [h]
    · rw [if_neg h]; simp [h]
set_option maxHeartbeats 1000000 in
set_option maxRecDepth 100000 in
theorem any_wrong (A : Option Addr) (c : Nat) (l : List S93) (w : World) (hr : Kd.C k93 w A l.length l) (hl : l.length ≤ 1000000) (hs : ∀ d ∈ l, d.f0.f0.size ≤ 9223372036854775807) :
    Calls Tryd.prog 62 #[.slice A l.length c, .func (.func 61) #[] #[]] w fun e w' => e = .returned (.bool (!(l.all rightD))) ∧ Below w.heap.size w w' := by
  go_enter Tryd.func62, Tryd.ntmps62
  go_wp2_with (go_at_call 87; (refine (index_wrong A c l _ hr hl hs).mono ?_); rintro e w1 ⟨rfl, hb⟩)
  go_ret
  refine ⟨?_, hb⟩
  rw [← wrongFrom_all l 0]
  rfl
/-- None has sent it behind one that has not. -/
def ordFrom : Bool → List S93 → Bool
  | _, [] => true
  | p, d :: r => (!d.f1 || p) && ordFrom d.f1 r
theorem ordFrom_cons (p : Bool) (d : S93) (r : List S93) : ordFrom p (d :: r) = ((!d.f1 || p) && ordFrom d.f1 r) := rfl
def ordB (l : List S93) : Bool := ordFrom true l && decide (l.length ≤ 8)
theorem ordered_at (l : List S93) (hl : l.length ≤ 1000000) : ∀ (d i k : Nat), l.length - i ≤ d → d + 1 ≤ k → i ≤ l.length →
    path_ordered.l0 k l l (l.length : Int) (i : Int) = some (ordFrom (if i = 0 then true else (rd_T93 l ((i - 1 : Nat) : Int)).f1) (l.drop i) && decide (l.length ≤ 8))
  | d, i, 0, _, hk, _ => absurd hk (by omega)
  | d, i, k + 1, hd, hk, hi => by
    rw [path_ordered.l0]
    by_cases h : i < l.length
    · obtain ⟨d', rfl⟩ : ∃ d', d = d' + 1 := ⟨d - 1, by omega⟩
      have ih := ordered_at l hl d' (i + 1) k (by omega) (by omega) (by omega)
      have hw : wrap64 ((i : Int) + 1) = ((i + 1 : Nat) : Int) := by unfold wrap64; omega
      rw [if_neg (show ¬ i + 1 = 0 by omega), show i + 1 - 1 = i from rfl] at ih
      rw [if_pos (by omega), if_pos (by omega), if_pos (by omega), hw, drop_T93 l i h, ih, ordFrom_cons]
      by_cases h1 : (rd_T93 l (i : Int)).f1 = true
      · rw [if_pos h1]
        by_cases h0 : i = 0
        · subst h0; rw [if_neg (by omega)]; simp [h1]
        · have hw2 : wrap64 ((i : Int) - 1) = ((i - 1 : Nat) : Int) := by unfold wrap64; omega
          rw [if_pos (by omega), hw2, if_pos (by omega), if_pos (by omega), if_neg h0]
          by_cases h2 : (rd_T93 l ((i - 1 : Nat) : Int)).f1 = true
          · rw [if_pos h2, h2, h1]; simp
          · rw [if_neg h2]
            have h2' : (rd_T93 l ((i - 1 : Nat) : Int)).f1 = false := by simpa using h2
            rw [h2', h1]; rfl
      · rw [if_neg h1]
        have h1' : (rd_T93 l (i : Int)).f1 = false := by simpa using h1
        rw [h1']; simp
    · rw [if_neg (by omega), List.drop_eq_nil_of_le (by omega)]
      show _ = some (true && _)
      rw [Bool.true_and]
      congr 1
      exact decide_eq_decide.2 (by omega)
theorem ordered_f (l : List S93) (hl : l.length ≤ 1000000) (k : Nat) (hk : l.length + 1 ≤ k) : path_ordered.f k l = some (ordB l) := by
  have := ordered_at l hl l.length 0 k (by omega) hk (by omega)
  rw [if_pos rfl, List.drop_zero] at this
  exact this
def pathB (a0 : ByteArray) (n0 : Int) (a1 : ByteArray) (n1 : Int) (l : List S93) : Bool := rightB a0 n0 && (rightB a1 n1 && (l.all rightD && ordB l))
def sizesOk (a0 a1 : ByteArray) (l : List S93) : Bool := decide (a0.size ≤ 9223372036854775807) && (decide (a1.size ≤ 9223372036854775807) && (l.all (fun d => decide (d.f0.f0.size ≤ 9223372036854775807)) && decide (l.length ≤ 1000000)))
def path_Right.f (a0_0 : ByteArray) (a0_1 : Int) (a0_2 : ByteArray) (a0_3 : Int) (a0_4 : Bool) (a0_5 : Bool) (l0_6 : List S93) : Option Bool := if sizesOk a0_0 a0_2 l0_6 = true then some (pathB a0_0 a0_1 a0_2 a0_3 l0_6) else none
set_option maxHeartbeats 1000000 in
set_option maxRecDepth 100000 in
theorem path_Right.calls (a0_0 : ByteArray) (a0_1 : Int) (a0_2 : ByteArray) (a0_3 : Int) (a0_4 : Bool) (a0_5 : Bool) (A0_6 : Option Addr) (c0_6 : Nat) (l0_6 : List (S93)) (r : Bool) (w : World) (hr0_6 : Kd.C k93 w A0_6 l0_6.length l0_6) (hc0_6 : l0_6.length ≤ c0_6) (h : path_Right.f a0_0 a0_1 a0_2 a0_3 a0_4 a0_5 l0_6 = some r) :
    Calls Tryd.prog 28 #[.agg #[.string a0_0, .int .i64 a0_1, .string a0_2, .int .i64 a0_3, .bool a0_4, .bool a0_5, .slice A0_6 l0_6.length c0_6]] w fun e w' => e = .returned (.bool r) ∧ Below w.heap.size w w' := by
  unfold path_Right.f at h
  split at h
  case isFalse => cases h
  rename_i hs
  unfold sizesOk at hs
  simp only [Bool.and_eq_true, decide_eq_true_eq, List.all_eq_true] at hs
  obtain ⟨s0, s1, s2, s3⟩ := hs
  have HR_ := Aside0.mk (Option.some.inj h)
  have HR := Aside0.mk hr0_6
  have HS2 := Aside0.mk s2
  clear hr0_6 h s2
  have hu26 := Tryd.underlying26
  have hu23 := Tryd.underlying23
  go_enter Tryd.func28, Tryd.ntmps28
  go_wp2_with (fail)
  refine (call_Right.calls a0_0 a0_1 (rightB a0_0 a0_1) _ (by unfold call_Right.f; rw [if_pos s0])).mono ?_
  rintro e w1 ⟨rfl, hb⟩
  have hz := hb.size
  simp only [World.size_alloc] at hz
  have hblk := (hb.block w.heap.size (by simp)).trans (heap_alloc_new w _)
  have HB1 := Aside0.mk (below_then ((Below.refl w.heap.size w).alloc (Nat.le_refl _) _) (by simp) hb)
  have HK1 := Aside0.mk hblk
  clear hb hblk
  have x2 := blk_cell HK1.out 2
  have x3 := blk_cell HK1.out 3
  have x6 := blk_cell HK1.out 6
  replace x2 : w1.cell? ⟨w.heap.size, 2, none⟩ = some (.string a0_2) := x2
  replace x3 : w1.cell? ⟨w.heap.size, 3, none⟩ = some (.int .i64 a0_3) := x3
  replace x6 : w1.cell? ⟨w.heap.size, 6, none⟩ = some (.slice A0_6 l0_6.length c0_6) := x6
  cases hr0 : rightB a0_0 a0_1 with
  | false =>
    have HQ := Aside0.mk (show pathB a0_0 a0_1 a0_2 a0_3 l0_6 = false by unfold pathB; rw [hr0]; rfl)
    clear hr0
    go_wp2_with (fail)
    go_ret
    exact ⟨by rw [← HR_.out, HQ.out]; rfl, HB1.out⟩
  | true =>
    have HQ := Aside0.mk (show pathB a0_0 a0_1 a0_2 a0_3 l0_6 = (rightB a0_2 a0_3 && (l0_6.all rightD && ordB l0_6)) by unfold pathB; rw [hr0]; rfl)
    clear hr0
    go_wp2_with (fail)
    refine (call_Right.calls a0_2 a0_3 (rightB a0_2 a0_3) _ (by unfold call_Right.f; rw [if_pos s1])).mono ?_
    rintro e w2 ⟨rfl, hb⟩
    have hblk := (hb.block w.heap.size (by omega)).trans HK1.out
    have HB2 := Aside0.mk (below_then HB1.out (by omega) hb)
    have HK2 := Aside0.mk hblk
    have hz2 := hb.size
    clear hb hblk x2 x3 x6
    have x6 := blk_cell HK2.out 6
    replace x6 : w2.cell? ⟨w.heap.size, 6, none⟩ = some (.slice A0_6 l0_6.length c0_6) := x6
    cases hr1 : rightB a0_2 a0_3 with
    | false =>
      have HQ2 := Aside0.mk (HQ.out.trans (show _ = false by rw [hr1]; rfl))
      clear hr1
      go_wp2_with (fail)
      go_ret
      exact ⟨by rw [← HR_.out, HQ2.out]; rfl, HB2.out⟩
    | true =>
      have HQ2 := Aside0.mk (HQ.out.trans (show _ = (l0_6.all rightD && ordB l0_6) by rw [hr1]; rfl))
      clear hr1
      go_wp2_with (fail)
      refine (any_wrong A0_6 c0_6 l0_6 _ (Kd.C_below HR.out HB2.out) s3 HS2.out).mono ?_
      rintro e w3 ⟨rfl, hb⟩
      have hblk := (hb.block w.heap.size (by omega)).trans HK2.out
      have HB3 := Aside0.mk (below_then HB2.out (by omega) hb)
      have HK3 := Aside0.mk hblk
      have hz3 := hb.size
      clear hb hblk x6
      have x6 := blk_cell HK3.out 6
      replace x6 : w3.cell? ⟨w.heap.size, 6, none⟩ = some (.slice A0_6 l0_6.length c0_6) := x6
      cases hr2 : l0_6.all rightD with
      | false =>
        have HQ3 := Aside0.mk (HQ2.out.trans (show _ = false by rw [hr2]; rfl))
        clear hr2
        go_wp2_with (fail)
        go_ret
        exact ⟨by rw [← HR_.out, HQ3.out]; rfl, HB3.out⟩
      | true =>
        have HQ3 := Aside0.mk (HQ2.out.trans (show _ = ordB l0_6 by rw [hr2]; rfl))
        clear hr2
        go_wp2_with (fail)
        refine (path_ordered.calls (l0_6.length + 1) A0_6 c0_6 l0_6 (ordB l0_6) _ (Kd.C_below HR.out HB3.out) hc0_6 (ordered_f l0_6 s3 _ (Nat.le_refl _))).mono ?_
        rintro e w4 ⟨rfl, hb⟩
        go_wp2_with (fail)
        go_ret
        exact ⟨by rw [← HR_.out, HQ3.out]; rfl, below_then HB3.out (by omega) hb⟩
end Go.Proofs.YtpmieapgbdbabaaDoor.QAll
end
