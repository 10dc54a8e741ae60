/- Words, walks and plain laws that the row of the law ScriptParses rests on. -/
import Derived.Test.YtndgaeldndgioaaGreatDoorMScriptParses0
import Derived.Test.YtndgaeldndgioaaGreatDoorMScriptParses2
import Derived.Test.YtndgaeldndgioaaGreatDoorMScriptParses1
import Derived.RegionTactic
section
/- Walks, written by a program of this session (wip/pp): a Go function comes to what the Lean function beside it tells. -/
namespace Go.Proofs.YtndgaeldndgioaaGreatDoor.QAll
open Go.RowKit Go.Proofs.YtndgaeldndgioaaGreatDoorW.PrintWords Go.Proofs.YtndgaeldndgioaaGreatDoorW.PrintLast Go.Proofs.YtndgaeldndgioaaGreatDoorW.PrintMore
attribute [local go_sem] max2_int min2_int max_two min_two max_three min_three max_four min_four
set_option linter.unusedVariables false
set_option linter.unusedSimpArgs false

mutual
def squelchref30_Right.j0 : Nat → Int → Bool → Int → Int → Int → Int → Int → ByteArray → Int → Int → ByteArray → Option (Bool)
 | 0, _, _, _, _, _, _, _, _, _, _, _ => none
 | k + 1, x3, x59, x188000, x188001, x188002, x188003, x188004, x188005, x188006, x188007, x188008 => if x59 = true then (some false) else (if x3 > 2 then (if x188005.toList = ([] : List UInt8) then (if x3 = 4 then (squelchref30_Right.j1 k x3 (x188001 != 0) x188000 x188001 x188002 x188003 x188004 x188005 x188006 x188007 x188008) else (if x188008.toList = ([] : List UInt8) then (squelchref30_Right.j1 k x3 false x188000 x188001 x188002 x188003 x188004 x188005 x188006 x188007 x188008) else (squelchref30_Right.j1 k x3 true x188000 x188001 x188002 x188003 x188004 x188005 x188006 x188007 x188008))) else (squelchref30_Right.j1 k x3 true x188000 x188001 x188002 x188003 x188004 x188005 x188006 x188007 x188008)) else (if x3 = 4 then (squelchref30_Right.j1 k x3 (x188001 != 0) x188000 x188001 x188002 x188003 x188004 x188005 x188006 x188007 x188008) else (if x188008.toList = ([] : List UInt8) then (squelchref30_Right.j1 k x3 false x188000 x188001 x188002 x188003 x188004 x188005 x188006 x188007 x188008) else (squelchref30_Right.j1 k x3 true x188000 x188001 x188002 x188003 x188004 x188005 x188006 x188007 x188008))))
def squelchref30_Right.j1 : Nat → Int → Bool → Int → Int → Int → Int → Int → ByteArray → Int → Int → ByteArray → Option (Bool)
 | 0, _, _, _, _, _, _, _, _, _, _, _ => none
 | k + 1, x3, x84, x188000, x188001, x188002, x188003, x188004, x188005, x188006, x188007, x188008 => if x84 = true then (some false) else (if x3 < 5 then (if x188002 = 0 then (if x3 = 6 then (if x3 ≥ 9 then (some true) else (if x188006 = 0 then (some (x188007 == 0)) else (some false))) else (if x188004 = 0 then (if x3 = 9 then (if x3 ≥ 9 then (some true) else (if x188006 = 0 then (some (x188007 == 0)) else (some false))) else (if x188003 = 0 then (if x3 ≥ 9 then (some true) else (if x188006 = 0 then (some (x188007 == 0)) else (some false))) else (some false))) else (some false))) else (some false)) else (if x3 > 8 then (if x188002 = 0 then (if x3 = 6 then (if x3 ≥ 9 then (some true) else (if x188006 = 0 then (some (x188007 == 0)) else (some false))) else (if x188004 = 0 then (if x3 = 9 then (if x3 ≥ 9 then (some true) else (if x188006 = 0 then (some (x188007 == 0)) else (some false))) else (if x188003 = 0 then (if x3 ≥ 9 then (some true) else (if x188006 = 0 then (some (x188007 == 0)) else (some false))) else (some false))) else (some false))) else (some false)) else (if x3 = 6 then (if x3 ≥ 9 then (some true) else (if x188006 = 0 then (some (x188007 == 0)) else (some false))) else (if x188004 = 0 then (if x3 = 9 then (if x3 ≥ 9 then (some true) else (if x188006 = 0 then (some (x188007 == 0)) else (some false))) else (if x188003 = 0 then (if x3 ≥ 9 then (some true) else (if x188006 = 0 then (some (x188007 == 0)) else (some false))) else (some false))) else (some false)))))
end
def squelchref30_Right.f (k : Nat) (a0_0 : Int) (a0_1 : Int) (a0_2 : Int) (a0_3 : Int) (a0_4 : Int) (a0_5 : ByteArray) (a0_6 : Int) (a0_7 : Int) (a0_8 : ByteArray) : Option (Bool) := if a0_0 < 1 then (squelchref30_Right.j0 k a0_0 true a0_0 a0_1 a0_2 a0_3 a0_4 a0_5 a0_6 a0_7 a0_8) else (if a0_0 > 11 then (squelchref30_Right.j0 k a0_0 true a0_0 a0_1 a0_2 a0_3 a0_4 a0_5 a0_6 a0_7 a0_8) else ((squelchref30_fits.f a0_1).bind fun t188 => (if t188 = true then ((squelchref30_fits.f a0_2).bind fun t189 => (if t189 = true then ((squelchref30_fits.f a0_3).bind fun t190 => (if t190 = true then ((squelchref30_fits.f a0_4).bind fun t191 => (if t191 = true then ((squelchref30_fits.f a0_6).bind fun t192 => (if t192 = true then ((squelchref30_fits.f a0_7).bind fun t193 => (if t193 = true then (if (a0_5.size : Int) > 300 then (squelchref30_Right.j0 k a0_0 true a0_0 a0_1 a0_2 a0_3 a0_4 a0_5 a0_6 a0_7 a0_8) else (squelchref30_Right.j0 k a0_0 (decide ((a0_8.size : Int) > 16)) a0_0 a0_1 a0_2 a0_3 a0_4 a0_5 a0_6 a0_7 a0_8)) else (squelchref30_Right.j0 k a0_0 true a0_0 a0_1 a0_2 a0_3 a0_4 a0_5 a0_6 a0_7 a0_8))) else (squelchref30_Right.j0 k a0_0 true a0_0 a0_1 a0_2 a0_3 a0_4 a0_5 a0_6 a0_7 a0_8))) else (squelchref30_Right.j0 k a0_0 true a0_0 a0_1 a0_2 a0_3 a0_4 a0_5 a0_6 a0_7 a0_8))) else (squelchref30_Right.j0 k a0_0 true a0_0 a0_1 a0_2 a0_3 a0_4 a0_5 a0_6 a0_7 a0_8))) else (squelchref30_Right.j0 k a0_0 true a0_0 a0_1 a0_2 a0_3 a0_4 a0_5 a0_6 a0_7 a0_8))) else (squelchref30_Right.j0 k a0_0 true a0_0 a0_1 a0_2 a0_3 a0_4 a0_5 a0_6 a0_7 a0_8))))
set_option maxHeartbeats 8000000 in
set_option maxRecDepth 100000 in
theorem squelchref30_Right.calls (k : Nat) (a0_0 : Int) (a0_1 : Int) (a0_2 : Int) (a0_3 : Int) (a0_4 : Int) (a0_5 : ByteArray) (a0_6 : Int) (a0_7 : Int) (a0_8 : ByteArray) (r : Bool) (w : World) (h : squelchref30_Right.f k a0_0 a0_1 a0_2 a0_3 a0_4 a0_5 a0_6 a0_7 a0_8 = some r) :
  Calls Tryz.prog 21 #[.agg #[.int .i64 a0_0, .int .i64 a0_1, .int .i64 a0_2, .int .i64 a0_3, .int .i64 a0_4, .string a0_5, .int .i64 a0_6, .int .i64 a0_7, .string a0_8]] w fun e w' => e = .returned (.bool r) ∧ Below w.heap.size w w' := by
 have hu31 := Tryz.underlying31
 have HB := Aside0.mk (Below.refl w.heap.size w)
 have H : (if a0_0 < 1 then (squelchref30_Right.j0 k a0_0 true a0_0 a0_1 a0_2 a0_3 a0_4 a0_5 a0_6 a0_7 a0_8) else (if a0_0 > 11 then (squelchref30_Right.j0 k a0_0 true a0_0 a0_1 a0_2 a0_3 a0_4 a0_5 a0_6 a0_7 a0_8) else ((squelchref30_fits.f a0_1).bind fun t188 => (if t188 = true then ((squelchref30_fits.f a0_2).bind fun t189 => (if t189 = true then ((squelchref30_fits.f a0_3).bind fun t190 => (if t190 = true then ((squelchref30_fits.f a0_4).bind fun t191 => (if t191 = true then ((squelchref30_fits.f a0_6).bind fun t192 => (if t192 = true then ((squelchref30_fits.f a0_7).bind fun t193 => (if t193 = true then (if (a0_5.size : Int) > 300 then (squelchref30_Right.j0 k a0_0 true a0_0 a0_1 a0_2 a0_3 a0_4 a0_5 a0_6 a0_7 a0_8) else (squelchref30_Right.j0 k a0_0 (decide ((a0_8.size : Int) > 16)) a0_0 a0_1 a0_2 a0_3 a0_4 a0_5 a0_6 a0_7 a0_8)) else (squelchref30_Right.j0 k a0_0 true a0_0 a0_1 a0_2 a0_3 a0_4 a0_5 a0_6 a0_7 a0_8))) else (squelchref30_Right.j0 k a0_0 true a0_0 a0_1 a0_2 a0_3 a0_4 a0_5 a0_6 a0_7 a0_8))) else (squelchref30_Right.j0 k a0_0 true a0_0 a0_1 a0_2 a0_3 a0_4 a0_5 a0_6 a0_7 a0_8))) else (squelchref30_Right.j0 k a0_0 true a0_0 a0_1 a0_2 a0_3 a0_4 a0_5 a0_6 a0_7 a0_8))) else (squelchref30_Right.j0 k a0_0 true a0_0 a0_1 a0_2 a0_3 a0_4 a0_5 a0_6 a0_7 a0_8))) else (squelchref30_Right.j0 k a0_0 true a0_0 a0_1 a0_2 a0_3 a0_4 a0_5 a0_6 a0_7 a0_8))))) = some r := h
 clear h
 have HC2 := Aside0.mk H
 clear H
 go_enter Tryz.func21, Tryz.ntmps21
 go_upto_region 2 with (first | ((with_reducible refine gate_dst (N := 1) rfl ?_); (try (refine gate_guard (by rfl) ?_; dsimp only)); refine box_event ?hg (N := 1) ?hd (cs := #[.int .i64 a0_0, .int .i64 a0_1, .int .i64 a0_2, .int .i64 a0_3, .int .i64 a0_4, .string a0_5, .int .i64 a0_6, .int .i64 a0_7, .string a0_8]) (t := 31) ?hr ?_; (case hd => rfl); (case hg => rfl); (case hr => first | (go_simp; done) | (go_simp; rfl)); intro gb187 hg w3 hbox hb; have n0_ := Aside0.mk (below_step (by repeat (first | (with_reducible first | exact HB.out | apply below_alloc | apply pw_below_drewN | apply below_drew1) | exact HB.out)) hb); have n1_ := Aside0.mk (hbox); have n2_ := Aside0.mk ((by rw [hg]; exact (below_size (by repeat (first | (with_reducible first | exact HB.out | apply below_alloc | apply pw_below_drewN | apply below_drew1) | exact HB.out))) : w.heap.size ≤ gb187)); have n3_ := Aside0.mk ((by rw [hg]; exact (below_size (by repeat (first | (with_reducible first | exact HB.out | apply below_alloc | apply pw_below_drewN | apply below_drew1) | exact HB.out))) : w.heap.size ≤ gb187)); clear HB; have HB := n0_; have BK187 := n1_; have GW187 := n2_; have GE187 := n3_; clear n0_ n1_ n2_ n3_; clear hb hbox hg; have hcz4_0 : w3.cell? ⟨gb187, 0, none⟩ = some (.int .i64 a0_0) := (blk_cell BK187.out 0).trans rfl; have hcz4_1 : w3.cell? ⟨gb187, 1, none⟩ = some (.int .i64 a0_1) := (blk_cell BK187.out 1).trans rfl; have hcz4_2 : w3.cell? ⟨gb187, 2, none⟩ = some (.int .i64 a0_2) := (blk_cell BK187.out 2).trans rfl; have hcz4_3 : w3.cell? ⟨gb187, 3, none⟩ = some (.int .i64 a0_3) := (blk_cell BK187.out 3).trans rfl; have hcz4_4 : w3.cell? ⟨gb187, 4, none⟩ = some (.int .i64 a0_4) := (blk_cell BK187.out 4).trans rfl; have hcz4_5 : w3.cell? ⟨gb187, 5, none⟩ = some (.string a0_5) := (blk_cell BK187.out 5).trans rfl; have hcz4_6 : w3.cell? ⟨gb187, 6, none⟩ = some (.int .i64 a0_6) := (blk_cell BK187.out 6).trans rfl; have hcz4_7 : w3.cell? ⟨gb187, 7, none⟩ = some (.int .i64 a0_7) := (blk_cell BK187.out 7).trans rfl; have hcz4_8 : w3.cell? ⟨gb187, 8, none⟩ = some (.string a0_8) := (blk_cell BK187.out 8).trans rfl; have hfz4_0 := blk_frozen BK187.out 0; have hfz4_1 := blk_frozen BK187.out 1; have hfz4_2 := blk_frozen BK187.out 2; have hfz4_3 := blk_frozen BK187.out 3; have hfz4_4 := blk_frozen BK187.out 4; have hfz4_5 := blk_frozen BK187.out 5; have hfz4_6 := blk_frozen BK187.out 6; have hfz4_7 := blk_frozen BK187.out 7; have hfz4_8 := blk_frozen BK187.out 8))
 (try simp only [Act.put, List.setIfInBounds_toArray, List.set_cons_zero, List.set_cons_succ])
 go_cut [59] (fun v59 wc => ∃ (kq : Nat) (x59_1 : Bool), v59 = .bool x59_1 ∧ Aside0 (squelchref30_Right.j0 kq a0_0 x59_1 a0_0 a0_1 a0_2 a0_3 a0_4 a0_5 a0_6 a0_7 a0_8 = some r) ∧ Aside0 (kq ≤ k) ∧ Aside0 (wc.heap[gb187]? = some (.cells #[.int .i64 a0_0, .int .i64 a0_1, .int .i64 a0_2, .int .i64 a0_3, .int .i64 a0_4, .string a0_5, .int .i64 a0_6, .int .i64 a0_7, .string a0_8] 31 (0, 0))) ∧ Aside0 (Below w.heap.size w wc))
 case first =>
  have H := HC2.out
  clear HC2
  by_cases c5 : a0_0 < 1
  ·rw [if_pos c5] at H
   have c5b0 : decide (a0_0 < 1) = true := decide_eq_true c5
   clear c5
   (first | rw [c5b0] | (simp only [i64_w, i32_w]; rw [c5b0]) | skip)
   have H' := Aside0.mk H
   clear H
   go_wp2
   go_meet
   case rel => exact ⟨_, (true), (by first | rfl | (simp; done) | (simp [*]; done) | (simp; exact (fun l : List UInt8 => (by cases l <;> rfl : l.isEmpty = !(l != []))) _)), H', ⟨by first | omega | exact Nat.le_refl _⟩, ⟨by (with_reducible repeat (first | refine blk_drewN ?_ _ | refine blk_drew ?_ | refine blk_alloc ?_ _)); exact BK187.out⟩, ⟨by repeat (first | (with_reducible first | exact HB.out | apply below_alloc | apply pw_below_drewN | apply below_drew1 | refine below_set ?_ GE187.out) | exact HB.out)⟩⟩
  ·rw [if_neg c5] at H
   have c5b0 : decide (a0_0 < 1) = false := decide_eq_false c5
   clear c5
   (first | rw [c5b0] | (simp only [i64_w, i32_w]; rw [c5b0]) | skip)
   by_cases c6 : a0_0 > 11
   ·rw [if_pos c6] at H
    have c6b0 : decide (11 < a0_0) = true := decide_eq_true c6
    clear c6
    have H' := Aside0.mk H
    clear H
    go_wp2
    go_meet
    case rel => exact ⟨_, (true), (by first | rfl | (simp; done) | (simp [*]; done) | (simp; exact (fun l : List UInt8 => (by cases l <;> rfl : l.isEmpty = !(l != []))) _)), H', ⟨by first | omega | exact Nat.le_refl _⟩, ⟨by (with_reducible repeat (first | refine blk_drewN ?_ _ | refine blk_drew ?_ | refine blk_alloc ?_ _)); exact BK187.out⟩, ⟨by repeat (first | (with_reducible first | exact HB.out | apply below_alloc | apply pw_below_drewN | apply below_drew1 | refine below_set ?_ GE187.out) | exact HB.out)⟩⟩
   ·rw [if_neg c6] at H
    have c6b0 : decide (11 < a0_0) = false := decide_eq_false c6
    clear c6
    replace H := Option.bind_eq_some_iff.mp H
    obtain ⟨t188, A70, H⟩ := H
    replace H : (if t188 = true then ((squelchref30_fits.f a0_2).bind fun t189 => (if t189 = true then ((squelchref30_fits.f a0_3).bind fun t190 => (if t190 = true then ((squelchref30_fits.f a0_4).bind fun t191 => (if t191 = true then ((squelchref30_fits.f a0_6).bind fun t192 => (if t192 = true then ((squelchref30_fits.f a0_7).bind fun t193 => (if t193 = true then (if (a0_5.size : Int) > 300 then (squelchref30_Right.j0 k a0_0 true a0_0 a0_1 a0_2 a0_3 a0_4 a0_5 a0_6 a0_7 a0_8) else (squelchref30_Right.j0 k a0_0 (decide ((a0_8.size : Int) > 16)) a0_0 a0_1 a0_2 a0_3 a0_4 a0_5 a0_6 a0_7 a0_8)) else (squelchref30_Right.j0 k a0_0 true a0_0 a0_1 a0_2 a0_3 a0_4 a0_5 a0_6 a0_7 a0_8))) else (squelchref30_Right.j0 k a0_0 true a0_0 a0_1 a0_2 a0_3 a0_4 a0_5 a0_6 a0_7 a0_8))) else (squelchref30_Right.j0 k a0_0 true a0_0 a0_1 a0_2 a0_3 a0_4 a0_5 a0_6 a0_7 a0_8))) else (squelchref30_Right.j0 k a0_0 true a0_0 a0_1 a0_2 a0_3 a0_4 a0_5 a0_6 a0_7 a0_8))) else (squelchref30_Right.j0 k a0_0 true a0_0 a0_1 a0_2 a0_3 a0_4 a0_5 a0_6 a0_7 a0_8))) else (squelchref30_Right.j0 k a0_0 true a0_0 a0_1 a0_2 a0_3 a0_4 a0_5 a0_6 a0_7 a0_8)) = some r := H
    have A7 := Aside0.mk A70
    clear A70
    by_cases c8 : t188 = true
    ·subst c8
     have H1 : ((squelchref30_fits.f a0_2).bind fun t189 => (if t189 = true then ((squelchref30_fits.f a0_3).bind fun t190 => (if t190 = true then ((squelchref30_fits.f a0_4).bind fun t191 => (if t191 = true then ((squelchref30_fits.f a0_6).bind fun t192 => (if t192 = true then ((squelchref30_fits.f a0_7).bind fun t193 => (if t193 = true then (if (a0_5.size : Int) > 300 then (squelchref30_Right.j0 k a0_0 true a0_0 a0_1 a0_2 a0_3 a0_4 a0_5 a0_6 a0_7 a0_8) else (squelchref30_Right.j0 k a0_0 (decide ((a0_8.size : Int) > 16)) a0_0 a0_1 a0_2 a0_3 a0_4 a0_5 a0_6 a0_7 a0_8)) else (squelchref30_Right.j0 k a0_0 true a0_0 a0_1 a0_2 a0_3 a0_4 a0_5 a0_6 a0_7 a0_8))) else (squelchref30_Right.j0 k a0_0 true a0_0 a0_1 a0_2 a0_3 a0_4 a0_5 a0_6 a0_7 a0_8))) else (squelchref30_Right.j0 k a0_0 true a0_0 a0_1 a0_2 a0_3 a0_4 a0_5 a0_6 a0_7 a0_8))) else (squelchref30_Right.j0 k a0_0 true a0_0 a0_1 a0_2 a0_3 a0_4 a0_5 a0_6 a0_7 a0_8))) else (squelchref30_Right.j0 k a0_0 true a0_0 a0_1 a0_2 a0_3 a0_4 a0_5 a0_6 a0_7 a0_8))) = some r := by rw [if_pos rfl] at H; exact H
     clear H
     have H := H1
     clear H1
     replace H := Option.bind_eq_some_iff.mp H
     obtain ⟨t189, A90, H⟩ := H
     replace H : (if t189 = true then ((squelchref30_fits.f a0_3).bind fun t190 => (if t190 = true then ((squelchref30_fits.f a0_4).bind fun t191 => (if t191 = true then ((squelchref30_fits.f a0_6).bind fun t192 => (if t192 = true then ((squelchref30_fits.f a0_7).bind fun t193 => (if t193 = true then (if (a0_5.size : Int) > 300 then (squelchref30_Right.j0 k a0_0 true a0_0 a0_1 a0_2 a0_3 a0_4 a0_5 a0_6 a0_7 a0_8) else (squelchref30_Right.j0 k a0_0 (decide ((a0_8.size : Int) > 16)) a0_0 a0_1 a0_2 a0_3 a0_4 a0_5 a0_6 a0_7 a0_8)) else (squelchref30_Right.j0 k a0_0 true a0_0 a0_1 a0_2 a0_3 a0_4 a0_5 a0_6 a0_7 a0_8))) else (squelchref30_Right.j0 k a0_0 true a0_0 a0_1 a0_2 a0_3 a0_4 a0_5 a0_6 a0_7 a0_8))) else (squelchref30_Right.j0 k a0_0 true a0_0 a0_1 a0_2 a0_3 a0_4 a0_5 a0_6 a0_7 a0_8))) else (squelchref30_Right.j0 k a0_0 true a0_0 a0_1 a0_2 a0_3 a0_4 a0_5 a0_6 a0_7 a0_8))) else (squelchref30_Right.j0 k a0_0 true a0_0 a0_1 a0_2 a0_3 a0_4 a0_5 a0_6 a0_7 a0_8)) = some r := H
     have A9 := Aside0.mk A90
     clear A90
     by_cases c10 : t189 = true
     ·subst c10
      have H1 : ((squelchref30_fits.f a0_3).bind fun t190 => (if t190 = true then ((squelchref30_fits.f a0_4).bind fun t191 => (if t191 = true then ((squelchref30_fits.f a0_6).bind fun t192 => (if t192 = true then ((squelchref30_fits.f a0_7).bind fun t193 => (if t193 = true then (if (a0_5.size : Int) > 300 then (squelchref30_Right.j0 k a0_0 true a0_0 a0_1 a0_2 a0_3 a0_4 a0_5 a0_6 a0_7 a0_8) else (squelchref30_Right.j0 k a0_0 (decide ((a0_8.size : Int) > 16)) a0_0 a0_1 a0_2 a0_3 a0_4 a0_5 a0_6 a0_7 a0_8)) else (squelchref30_Right.j0 k a0_0 true a0_0 a0_1 a0_2 a0_3 a0_4 a0_5 a0_6 a0_7 a0_8))) else (squelchref30_Right.j0 k a0_0 true a0_0 a0_1 a0_2 a0_3 a0_4 a0_5 a0_6 a0_7 a0_8))) else (squelchref30_Right.j0 k a0_0 true a0_0 a0_1 a0_2 a0_3 a0_4 a0_5 a0_6 a0_7 a0_8))) else (squelchref30_Right.j0 k a0_0 true a0_0 a0_1 a0_2 a0_3 a0_4 a0_5 a0_6 a0_7 a0_8))) = some r := by rw [if_pos rfl] at H; exact H
      clear H
      have H := H1
      clear H1
      replace H := Option.bind_eq_some_iff.mp H
      obtain ⟨t190, A110, H⟩ := H
      replace H : (if t190 = true then ((squelchref30_fits.f a0_4).bind fun t191 => (if t191 = true then ((squelchref30_fits.f a0_6).bind fun t192 => (if t192 = true then ((squelchref30_fits.f a0_7).bind fun t193 => (if t193 = true then (if (a0_5.size : Int) > 300 then (squelchref30_Right.j0 k a0_0 true a0_0 a0_1 a0_2 a0_3 a0_4 a0_5 a0_6 a0_7 a0_8) else (squelchref30_Right.j0 k a0_0 (decide ((a0_8.size : Int) > 16)) a0_0 a0_1 a0_2 a0_3 a0_4 a0_5 a0_6 a0_7 a0_8)) else (squelchref30_Right.j0 k a0_0 true a0_0 a0_1 a0_2 a0_3 a0_4 a0_5 a0_6 a0_7 a0_8))) else (squelchref30_Right.j0 k a0_0 true a0_0 a0_1 a0_2 a0_3 a0_4 a0_5 a0_6 a0_7 a0_8))) else (squelchref30_Right.j0 k a0_0 true a0_0 a0_1 a0_2 a0_3 a0_4 a0_5 a0_6 a0_7 a0_8))) else (squelchref30_Right.j0 k a0_0 true a0_0 a0_1 a0_2 a0_3 a0_4 a0_5 a0_6 a0_7 a0_8)) = some r := H
      have A11 := Aside0.mk A110
      clear A110
      by_cases c12 : t190 = true
      ·subst c12
       have H1 : ((squelchref30_fits.f a0_4).bind fun t191 => (if t191 = true then ((squelchref30_fits.f a0_6).bind fun t192 => (if t192 = true then ((squelchref30_fits.f a0_7).bind fun t193 => (if t193 = true then (if (a0_5.size : Int) > 300 then (squelchref30_Right.j0 k a0_0 true a0_0 a0_1 a0_2 a0_3 a0_4 a0_5 a0_6 a0_7 a0_8) else (squelchref30_Right.j0 k a0_0 (decide ((a0_8.size : Int) > 16)) a0_0 a0_1 a0_2 a0_3 a0_4 a0_5 a0_6 a0_7 a0_8)) else (squelchref30_Right.j0 k a0_0 true a0_0 a0_1 a0_2 a0_3 a0_4 a0_5 a0_6 a0_7 a0_8))) else (squelchref30_Right.j0 k a0_0 true a0_0 a0_1 a0_2 a0_3 a0_4 a0_5 a0_6 a0_7 a0_8))) else (squelchref30_Right.j0 k a0_0 true a0_0 a0_1 a0_2 a0_3 a0_4 a0_5 a0_6 a0_7 a0_8))) = some r := by rw [if_pos rfl] at H; exact H
       clear H
       have H := H1
       clear H1
       replace H := Option.bind_eq_some_iff.mp H
       obtain ⟨t191, A130, H⟩ := H
       replace H : (if t191 = true then ((squelchref30_fits.f a0_6).bind fun t192 => (if t192 = true then ((squelchref30_fits.f a0_7).bind fun t193 => (if t193 = true then (if (a0_5.size : Int) > 300 then (squelchref30_Right.j0 k a0_0 true a0_0 a0_1 a0_2 a0_3 a0_4 a0_5 a0_6 a0_7 a0_8) else (squelchref30_Right.j0 k a0_0 (decide ((a0_8.size : Int) > 16)) a0_0 a0_1 a0_2 a0_3 a0_4 a0_5 a0_6 a0_7 a0_8)) else (squelchref30_Right.j0 k a0_0 true a0_0 a0_1 a0_2 a0_3 a0_4 a0_5 a0_6 a0_7 a0_8))) else (squelchref30_Right.j0 k a0_0 true a0_0 a0_1 a0_2 a0_3 a0_4 a0_5 a0_6 a0_7 a0_8))) else (squelchref30_Right.j0 k a0_0 true a0_0 a0_1 a0_2 a0_3 a0_4 a0_5 a0_6 a0_7 a0_8)) = some r := H
       have A13 := Aside0.mk A130
       clear A130
       by_cases c14 : t191 = true
       ·subst c14
        have H1 : ((squelchref30_fits.f a0_6).bind fun t192 => (if t192 = true then ((squelchref30_fits.f a0_7).bind fun t193 => (if t193 = true then (if (a0_5.size : Int) > 300 then (squelchref30_Right.j0 k a0_0 true a0_0 a0_1 a0_2 a0_3 a0_4 a0_5 a0_6 a0_7 a0_8) else (squelchref30_Right.j0 k a0_0 (decide ((a0_8.size : Int) > 16)) a0_0 a0_1 a0_2 a0_3 a0_4 a0_5 a0_6 a0_7 a0_8)) else (squelchref30_Right.j0 k a0_0 true a0_0 a0_1 a0_2 a0_3 a0_4 a0_5 a0_6 a0_7 a0_8))) else (squelchref30_Right.j0 k a0_0 true a0_0 a0_1 a0_2 a0_3 a0_4 a0_5 a0_6 a0_7 a0_8))) = some r := by rw [if_pos rfl] at H; exact H
        clear H
        have H := H1
        clear H1
        replace H := Option.bind_eq_some_iff.mp H
        obtain ⟨t192, A150, H⟩ := H
        replace H : (if t192 = true then ((squelchref30_fits.f a0_7).bind fun t193 => (if t193 = true then (if (a0_5.size : Int) > 300 then (squelchref30_Right.j0 k a0_0 true a0_0 a0_1 a0_2 a0_3 a0_4 a0_5 a0_6 a0_7 a0_8) else (squelchref30_Right.j0 k a0_0 (decide ((a0_8.size : Int) > 16)) a0_0 a0_1 a0_2 a0_3 a0_4 a0_5 a0_6 a0_7 a0_8)) else (squelchref30_Right.j0 k a0_0 true a0_0 a0_1 a0_2 a0_3 a0_4 a0_5 a0_6 a0_7 a0_8))) else (squelchref30_Right.j0 k a0_0 true a0_0 a0_1 a0_2 a0_3 a0_4 a0_5 a0_6 a0_7 a0_8)) = some r := H
        have A15 := Aside0.mk A150
        clear A150
        by_cases c16 : t192 = true
        ·subst c16
         have H1 : ((squelchref30_fits.f a0_7).bind fun t193 => (if t193 = true then (if (a0_5.size : Int) > 300 then (squelchref30_Right.j0 k a0_0 true a0_0 a0_1 a0_2 a0_3 a0_4 a0_5 a0_6 a0_7 a0_8) else (squelchref30_Right.j0 k a0_0 (decide ((a0_8.size : Int) > 16)) a0_0 a0_1 a0_2 a0_3 a0_4 a0_5 a0_6 a0_7 a0_8)) else (squelchref30_Right.j0 k a0_0 true a0_0 a0_1 a0_2 a0_3 a0_4 a0_5 a0_6 a0_7 a0_8))) = some r := by rw [if_pos rfl] at H; exact H
         clear H
         have H := H1
         clear H1
         replace H := Option.bind_eq_some_iff.mp H
         obtain ⟨t193, A170, H⟩ := H
         replace H : (if t193 = true then (if (a0_5.size : Int) > 300 then (squelchref30_Right.j0 k a0_0 true a0_0 a0_1 a0_2 a0_3 a0_4 a0_5 a0_6 a0_7 a0_8) else (squelchref30_Right.j0 k a0_0 (decide ((a0_8.size : Int) > 16)) a0_0 a0_1 a0_2 a0_3 a0_4 a0_5 a0_6 a0_7 a0_8)) else (squelchref30_Right.j0 k a0_0 true a0_0 a0_1 a0_2 a0_3 a0_4 a0_5 a0_6 a0_7 a0_8)) = some r := H
         have A17 := Aside0.mk A170
         clear A170
         by_cases c18 : t193 = true
         ·subst c18
          have H1 : (if (a0_5.size : Int) > 300 then (squelchref30_Right.j0 k a0_0 true a0_0 a0_1 a0_2 a0_3 a0_4 a0_5 a0_6 a0_7 a0_8) else (squelchref30_Right.j0 k a0_0 (decide ((a0_8.size : Int) > 16)) a0_0 a0_1 a0_2 a0_3 a0_4 a0_5 a0_6 a0_7 a0_8)) = some r := by rw [if_pos rfl] at H; exact H
          clear H
          have H := H1
          clear H1
          by_cases c19 : (a0_5.size : Int) > 300
          ·rw [if_pos c19] at H
           have c19b0 : decide (300 < (a0_5.size : Int)) = true := decide_eq_true c19
           have c19b1 : decide (300 < a0_5.size) = true := decide_eq_true (by omega)
           clear c19
           have H' := Aside0.mk H
           clear H
           have hcz20_0 : w3.cell? ⟨gb187, 0, none⟩ = some (.int .i64 a0_0) := (blk_cell BK187.out 0).trans rfl
           have hcz20_1 : w3.cell? ⟨gb187, 1, none⟩ = some (.int .i64 a0_1) := (blk_cell BK187.out 1).trans rfl
           have hcz20_2 : w3.cell? ⟨gb187, 2, none⟩ = some (.int .i64 a0_2) := (blk_cell BK187.out 2).trans rfl
           have hcz20_3 : w3.cell? ⟨gb187, 3, none⟩ = some (.int .i64 a0_3) := (blk_cell BK187.out 3).trans rfl
           have hcz20_4 : w3.cell? ⟨gb187, 4, none⟩ = some (.int .i64 a0_4) := (blk_cell BK187.out 4).trans rfl
           have hcz20_5 : w3.cell? ⟨gb187, 5, none⟩ = some (.string a0_5) := (blk_cell BK187.out 5).trans rfl
           have hcz20_6 : w3.cell? ⟨gb187, 6, none⟩ = some (.int .i64 a0_6) := (blk_cell BK187.out 6).trans rfl
           have hcz20_7 : w3.cell? ⟨gb187, 7, none⟩ = some (.int .i64 a0_7) := (blk_cell BK187.out 7).trans rfl
           have hcz20_8 : w3.cell? ⟨gb187, 8, none⟩ = some (.string a0_8) := (blk_cell BK187.out 8).trans rfl
           have hfz20_0 := blk_frozen BK187.out 0
           have hfz20_1 := blk_frozen BK187.out 1
           have hfz20_2 := blk_frozen BK187.out 2
           have hfz20_3 := blk_frozen BK187.out 3
           have hfz20_4 := blk_frozen BK187.out 4
           have hfz20_5 := blk_frozen BK187.out 5
           have hfz20_6 := blk_frozen BK187.out 6
           have hfz20_7 := blk_frozen BK187.out 7
           have hfz20_8 := blk_frozen BK187.out 8
           go_wp2_with (first | (go_at_call 53; (with_reducible refine (squelchref30_fits.calls a0_1 true _ A7.out).mono ?_); rintro e w' ⟨rfl, ⟨nd, rfl⟩⟩) | (go_at_call 53; (with_reducible refine (squelchref30_fits.calls a0_2 true _ A9.out).mono ?_); rintro e w' ⟨rfl, ⟨nd, rfl⟩⟩) | (go_at_call 53; (with_reducible refine (squelchref30_fits.calls a0_3 true _ A11.out).mono ?_); rintro e w' ⟨rfl, ⟨nd, rfl⟩⟩) | (go_at_call 53; (with_reducible refine (squelchref30_fits.calls a0_4 true _ A13.out).mono ?_); rintro e w' ⟨rfl, ⟨nd, rfl⟩⟩) | (go_at_call 53; (with_reducible refine (squelchref30_fits.calls a0_6 true _ A15.out).mono ?_); rintro e w' ⟨rfl, ⟨nd, rfl⟩⟩) | (go_at_call 53; (with_reducible refine (squelchref30_fits.calls a0_7 true _ A17.out).mono ?_); rintro e w' ⟨rfl, ⟨nd, rfl⟩⟩))
           go_meet
           case rel => exact ⟨_, (true), (by first | rfl | (simp; done) | (simp [*]; done) | (simp; exact (fun l : List UInt8 => (by cases l <;> rfl : l.isEmpty = !(l != []))) _)), H', ⟨by first | omega | exact Nat.le_refl _⟩, ⟨by (with_reducible repeat (first | refine blk_drewN ?_ _ | refine blk_drew ?_ | refine blk_alloc ?_ _)); exact BK187.out⟩, ⟨by repeat (first | (with_reducible first | exact HB.out | apply below_alloc | apply pw_below_drewN | apply below_drew1 | refine below_set ?_ GE187.out) | exact HB.out)⟩⟩
          ·rw [if_neg c19] at H
           have c19b0 : decide (300 < (a0_5.size : Int)) = false := decide_eq_false c19
           have c19b1 : decide (300 < a0_5.size) = false := decide_eq_false (by omega)
           clear c19
           have H' := Aside0.mk H
           clear H
           have hcz21_0 : w3.cell? ⟨gb187, 0, none⟩ = some (.int .i64 a0_0) := (blk_cell BK187.out 0).trans rfl
           have hcz21_1 : w3.cell? ⟨gb187, 1, none⟩ = some (.int .i64 a0_1) := (blk_cell BK187.out 1).trans rfl
           have hcz21_2 : w3.cell? ⟨gb187, 2, none⟩ = some (.int .i64 a0_2) := (blk_cell BK187.out 2).trans rfl
           have hcz21_3 : w3.cell? ⟨gb187, 3, none⟩ = some (.int .i64 a0_3) := (blk_cell BK187.out 3).trans rfl
           have hcz21_4 : w3.cell? ⟨gb187, 4, none⟩ = some (.int .i64 a0_4) := (blk_cell BK187.out 4).trans rfl
           have hcz21_5 : w3.cell? ⟨gb187, 5, none⟩ = some (.string a0_5) := (blk_cell BK187.out 5).trans rfl
           have hcz21_6 : w3.cell? ⟨gb187, 6, none⟩ = some (.int .i64 a0_6) := (blk_cell BK187.out 6).trans rfl
           have hcz21_7 : w3.cell? ⟨gb187, 7, none⟩ = some (.int .i64 a0_7) := (blk_cell BK187.out 7).trans rfl
           have hcz21_8 : w3.cell? ⟨gb187, 8, none⟩ = some (.string a0_8) := (blk_cell BK187.out 8).trans rfl
           have hfz21_0 := blk_frozen BK187.out 0
           have hfz21_1 := blk_frozen BK187.out 1
           have hfz21_2 := blk_frozen BK187.out 2
           have hfz21_3 := blk_frozen BK187.out 3
           have hfz21_4 := blk_frozen BK187.out 4
           have hfz21_5 := blk_frozen BK187.out 5
           have hfz21_6 := blk_frozen BK187.out 6
           have hfz21_7 := blk_frozen BK187.out 7
           have hfz21_8 := blk_frozen BK187.out 8
           go_wp2_with (first | (go_at_call 53; (with_reducible refine (squelchref30_fits.calls a0_1 true _ A7.out).mono ?_); rintro e w' ⟨rfl, ⟨nd, rfl⟩⟩) | (go_at_call 53; (with_reducible refine (squelchref30_fits.calls a0_2 true _ A9.out).mono ?_); rintro e w' ⟨rfl, ⟨nd, rfl⟩⟩) | (go_at_call 53; (with_reducible refine (squelchref30_fits.calls a0_3 true _ A11.out).mono ?_); rintro e w' ⟨rfl, ⟨nd, rfl⟩⟩) | (go_at_call 53; (with_reducible refine (squelchref30_fits.calls a0_4 true _ A13.out).mono ?_); rintro e w' ⟨rfl, ⟨nd, rfl⟩⟩) | (go_at_call 53; (with_reducible refine (squelchref30_fits.calls a0_6 true _ A15.out).mono ?_); rintro e w' ⟨rfl, ⟨nd, rfl⟩⟩) | (go_at_call 53; (with_reducible refine (squelchref30_fits.calls a0_7 true _ A17.out).mono ?_); rintro e w' ⟨rfl, ⟨nd, rfl⟩⟩))
           go_meet
           case rel => exact ⟨_, (decide ((a0_8.size : Int) > 16)), (by first | rfl | (simp; done) | (simp [*]; done) | (simp; exact (fun l : List UInt8 => (by cases l <;> rfl : l.isEmpty = !(l != []))) _)), H', ⟨by first | omega | exact Nat.le_refl _⟩, ⟨by (with_reducible repeat (first | refine blk_drewN ?_ _ | refine blk_drew ?_ | refine blk_alloc ?_ _)); exact BK187.out⟩, ⟨by repeat (first | (with_reducible first | exact HB.out | apply below_alloc | apply pw_below_drewN | apply below_drew1 | refine below_set ?_ GE187.out) | exact HB.out)⟩⟩
         ·replace c18 := Bool.eq_false_iff.mpr c18
          subst c18
          have H1 : (squelchref30_Right.j0 k a0_0 true a0_0 a0_1 a0_2 a0_3 a0_4 a0_5 a0_6 a0_7 a0_8) = some r := by rw [if_neg (show ¬ (false = true) by decide)] at H; exact H
          clear H
          have H := H1
          clear H1
          have H' := Aside0.mk H
          clear H
          have hcz22_0 : w3.cell? ⟨gb187, 0, none⟩ = some (.int .i64 a0_0) := (blk_cell BK187.out 0).trans rfl
          have hcz22_1 : w3.cell? ⟨gb187, 1, none⟩ = some (.int .i64 a0_1) := (blk_cell BK187.out 1).trans rfl
          have hcz22_2 : w3.cell? ⟨gb187, 2, none⟩ = some (.int .i64 a0_2) := (blk_cell BK187.out 2).trans rfl
          have hcz22_3 : w3.cell? ⟨gb187, 3, none⟩ = some (.int .i64 a0_3) := (blk_cell BK187.out 3).trans rfl
          have hcz22_4 : w3.cell? ⟨gb187, 4, none⟩ = some (.int .i64 a0_4) := (blk_cell BK187.out 4).trans rfl
          have hcz22_5 : w3.cell? ⟨gb187, 5, none⟩ = some (.string a0_5) := (blk_cell BK187.out 5).trans rfl
          have hcz22_6 : w3.cell? ⟨gb187, 6, none⟩ = some (.int .i64 a0_6) := (blk_cell BK187.out 6).trans rfl
          have hcz22_7 : w3.cell? ⟨gb187, 7, none⟩ = some (.int .i64 a0_7) := (blk_cell BK187.out 7).trans rfl
          have hcz22_8 : w3.cell? ⟨gb187, 8, none⟩ = some (.string a0_8) := (blk_cell BK187.out 8).trans rfl
          have hfz22_0 := blk_frozen BK187.out 0
          have hfz22_1 := blk_frozen BK187.out 1
          have hfz22_2 := blk_frozen BK187.out 2
          have hfz22_3 := blk_frozen BK187.out 3
          have hfz22_4 := blk_frozen BK187.out 4
          have hfz22_5 := blk_frozen BK187.out 5
          have hfz22_6 := blk_frozen BK187.out 6
          have hfz22_7 := blk_frozen BK187.out 7
          have hfz22_8 := blk_frozen BK187.out 8
          go_wp2_with (first | (go_at_call 53; (with_reducible refine (squelchref30_fits.calls a0_1 true _ A7.out).mono ?_); rintro e w' ⟨rfl, ⟨nd, rfl⟩⟩) | (go_at_call 53; (with_reducible refine (squelchref30_fits.calls a0_2 true _ A9.out).mono ?_); rintro e w' ⟨rfl, ⟨nd, rfl⟩⟩) | (go_at_call 53; (with_reducible refine (squelchref30_fits.calls a0_3 true _ A11.out).mono ?_); rintro e w' ⟨rfl, ⟨nd, rfl⟩⟩) | (go_at_call 53; (with_reducible refine (squelchref30_fits.calls a0_4 true _ A13.out).mono ?_); rintro e w' ⟨rfl, ⟨nd, rfl⟩⟩) | (go_at_call 53; (with_reducible refine (squelchref30_fits.calls a0_6 true _ A15.out).mono ?_); rintro e w' ⟨rfl, ⟨nd, rfl⟩⟩) | (go_at_call 53; (with_reducible refine (squelchref30_fits.calls a0_7 false _ A17.out).mono ?_); rintro e w' ⟨rfl, ⟨nd, rfl⟩⟩))
          go_meet
          case rel => exact ⟨_, (true), (by first | rfl | (simp; done) | (simp [*]; done) | (simp; exact (fun l : List UInt8 => (by cases l <;> rfl : l.isEmpty = !(l != []))) _)), H', ⟨by first | omega | exact Nat.le_refl _⟩, ⟨by (with_reducible repeat (first | refine blk_drewN ?_ _ | refine blk_drew ?_ | refine blk_alloc ?_ _)); exact BK187.out⟩, ⟨by repeat (first | (with_reducible first | exact HB.out | apply below_alloc | apply pw_below_drewN | apply below_drew1 | refine below_set ?_ GE187.out) | exact HB.out)⟩⟩
        ·replace c16 := Bool.eq_false_iff.mpr c16
         subst c16
         have H1 : (squelchref30_Right.j0 k a0_0 true a0_0 a0_1 a0_2 a0_3 a0_4 a0_5 a0_6 a0_7 a0_8) = some r := by rw [if_neg (show ¬ (false = true) by decide)] at H; exact H
         clear H
         have H := H1
         clear H1
         have H' := Aside0.mk H
         clear H
         have hcz23_0 : w3.cell? ⟨gb187, 0, none⟩ = some (.int .i64 a0_0) := (blk_cell BK187.out 0).trans rfl
         have hcz23_1 : w3.cell? ⟨gb187, 1, none⟩ = some (.int .i64 a0_1) := (blk_cell BK187.out 1).trans rfl
         have hcz23_2 : w3.cell? ⟨gb187, 2, none⟩ = some (.int .i64 a0_2) := (blk_cell BK187.out 2).trans rfl
         have hcz23_3 : w3.cell? ⟨gb187, 3, none⟩ = some (.int .i64 a0_3) := (blk_cell BK187.out 3).trans rfl
         have hcz23_4 : w3.cell? ⟨gb187, 4, none⟩ = some (.int .i64 a0_4) := (blk_cell BK187.out 4).trans rfl
         have hcz23_5 : w3.cell? ⟨gb187, 5, none⟩ = some (.string a0_5) := (blk_cell BK187.out 5).trans rfl
         have hcz23_6 : w3.cell? ⟨gb187, 6, none⟩ = some (.int .i64 a0_6) := (blk_cell BK187.out 6).trans rfl
         have hcz23_7 : w3.cell? ⟨gb187, 7, none⟩ = some (.int .i64 a0_7) := (blk_cell BK187.out 7).trans rfl
         have hcz23_8 : w3.cell? ⟨gb187, 8, none⟩ = some (.string a0_8) := (blk_cell BK187.out 8).trans rfl
         have hfz23_0 := blk_frozen BK187.out 0
         have hfz23_1 := blk_frozen BK187.out 1
         have hfz23_2 := blk_frozen BK187.out 2
         have hfz23_3 := blk_frozen BK187.out 3
         have hfz23_4 := blk_frozen BK187.out 4
         have hfz23_5 := blk_frozen BK187.out 5
         have hfz23_6 := blk_frozen BK187.out 6
         have hfz23_7 := blk_frozen BK187.out 7
         have hfz23_8 := blk_frozen BK187.out 8
         go_wp2_with (first | (go_at_call 53; (with_reducible refine (squelchref30_fits.calls a0_1 true _ A7.out).mono ?_); rintro e w' ⟨rfl, ⟨nd, rfl⟩⟩) | (go_at_call 53; (with_reducible refine (squelchref30_fits.calls a0_2 true _ A9.out).mono ?_); rintro e w' ⟨rfl, ⟨nd, rfl⟩⟩) | (go_at_call 53; (with_reducible refine (squelchref30_fits.calls a0_3 true _ A11.out).mono ?_); rintro e w' ⟨rfl, ⟨nd, rfl⟩⟩) | (go_at_call 53; (with_reducible refine (squelchref30_fits.calls a0_4 true _ A13.out).mono ?_); rintro e w' ⟨rfl, ⟨nd, rfl⟩⟩) | (go_at_call 53; (with_reducible refine (squelchref30_fits.calls a0_6 false _ A15.out).mono ?_); rintro e w' ⟨rfl, ⟨nd, rfl⟩⟩))
         go_meet
         case rel => exact ⟨_, (true), (by first | rfl | (simp; done) | (simp [*]; done) | (simp; exact (fun l : List UInt8 => (by cases l <;> rfl : l.isEmpty = !(l != []))) _)), H', ⟨by first | omega | exact Nat.le_refl _⟩, ⟨by (with_reducible repeat (first | refine blk_drewN ?_ _ | refine blk_drew ?_ | refine blk_alloc ?_ _)); exact BK187.out⟩, ⟨by repeat (first | (with_reducible first | exact HB.out | apply below_alloc | apply pw_below_drewN | apply below_drew1 | refine below_set ?_ GE187.out) | exact HB.out)⟩⟩
       ·replace c14 := Bool.eq_false_iff.mpr c14
        subst c14
        have H1 : (squelchref30_Right.j0 k a0_0 true a0_0 a0_1 a0_2 a0_3 a0_4 a0_5 a0_6 a0_7 a0_8) = some r := by rw [if_neg (show ¬ (false = true) by decide)] at H; exact H
        clear H
        have H := H1
        clear H1
        have H' := Aside0.mk H
        clear H
        have hcz24_0 : w3.cell? ⟨gb187, 0, none⟩ = some (.int .i64 a0_0) := (blk_cell BK187.out 0).trans rfl
        have hcz24_1 : w3.cell? ⟨gb187, 1, none⟩ = some (.int .i64 a0_1) := (blk_cell BK187.out 1).trans rfl
        have hcz24_2 : w3.cell? ⟨gb187, 2, none⟩ = some (.int .i64 a0_2) := (blk_cell BK187.out 2).trans rfl
        have hcz24_3 : w3.cell? ⟨gb187, 3, none⟩ = some (.int .i64 a0_3) := (blk_cell BK187.out 3).trans rfl
        have hcz24_4 : w3.cell? ⟨gb187, 4, none⟩ = some (.int .i64 a0_4) := (blk_cell BK187.out 4).trans rfl
        have hcz24_5 : w3.cell? ⟨gb187, 5, none⟩ = some (.string a0_5) := (blk_cell BK187.out 5).trans rfl
        have hcz24_6 : w3.cell? ⟨gb187, 6, none⟩ = some (.int .i64 a0_6) := (blk_cell BK187.out 6).trans rfl
        have hcz24_7 : w3.cell? ⟨gb187, 7, none⟩ = some (.int .i64 a0_7) := (blk_cell BK187.out 7).trans rfl
        have hcz24_8 : w3.cell? ⟨gb187, 8, none⟩ = some (.string a0_8) := (blk_cell BK187.out 8).trans rfl
        have hfz24_0 := blk_frozen BK187.out 0
        have hfz24_1 := blk_frozen BK187.out 1
        have hfz24_2 := blk_frozen BK187.out 2
        have hfz24_3 := blk_frozen BK187.out 3
        have hfz24_4 := blk_frozen BK187.out 4
        have hfz24_5 := blk_frozen BK187.out 5
        have hfz24_6 := blk_frozen BK187.out 6
        have hfz24_7 := blk_frozen BK187.out 7
        have hfz24_8 := blk_frozen BK187.out 8
        go_wp2_with (first | (go_at_call 53; (with_reducible refine (squelchref30_fits.calls a0_1 true _ A7.out).mono ?_); rintro e w' ⟨rfl, ⟨nd, rfl⟩⟩) | (go_at_call 53; (with_reducible refine (squelchref30_fits.calls a0_2 true _ A9.out).mono ?_); rintro e w' ⟨rfl, ⟨nd, rfl⟩⟩) | (go_at_call 53; (with_reducible refine (squelchref30_fits.calls a0_3 true _ A11.out).mono ?_); rintro e w' ⟨rfl, ⟨nd, rfl⟩⟩) | (go_at_call 53; (with_reducible refine (squelchref30_fits.calls a0_4 false _ A13.out).mono ?_); rintro e w' ⟨rfl, ⟨nd, rfl⟩⟩))
        go_meet
        case rel => exact ⟨_, (true), (by first | rfl | (simp; done) | (simp [*]; done) | (simp; exact (fun l : List UInt8 => (by cases l <;> rfl : l.isEmpty = !(l != []))) _)), H', ⟨by first | omega | exact Nat.le_refl _⟩, ⟨by (with_reducible repeat (first | refine blk_drewN ?_ _ | refine blk_drew ?_ | refine blk_alloc ?_ _)); exact BK187.out⟩, ⟨by repeat (first | (with_reducible first | exact HB.out | apply below_alloc | apply pw_below_drewN | apply below_drew1 | refine below_set ?_ GE187.out) | exact HB.out)⟩⟩
      ·replace c12 := Bool.eq_false_iff.mpr c12
       subst c12
       have H1 : (squelchref30_Right.j0 k a0_0 true a0_0 a0_1 a0_2 a0_3 a0_4 a0_5 a0_6 a0_7 a0_8) = some r := by rw [if_neg (show ¬ (false = true) by decide)] at H; exact H
       clear H
       have H := H1
       clear H1
       have H' := Aside0.mk H
       clear H
       have hcz25_0 : w3.cell? ⟨gb187, 0, none⟩ = some (.int .i64 a0_0) := (blk_cell BK187.out 0).trans rfl
       have hcz25_1 : w3.cell? ⟨gb187, 1, none⟩ = some (.int .i64 a0_1) := (blk_cell BK187.out 1).trans rfl
       have hcz25_2 : w3.cell? ⟨gb187, 2, none⟩ = some (.int .i64 a0_2) := (blk_cell BK187.out 2).trans rfl
       have hcz25_3 : w3.cell? ⟨gb187, 3, none⟩ = some (.int .i64 a0_3) := (blk_cell BK187.out 3).trans rfl
       have hcz25_4 : w3.cell? ⟨gb187, 4, none⟩ = some (.int .i64 a0_4) := (blk_cell BK187.out 4).trans rfl
       have hcz25_5 : w3.cell? ⟨gb187, 5, none⟩ = some (.string a0_5) := (blk_cell BK187.out 5).trans rfl
       have hcz25_6 : w3.cell? ⟨gb187, 6, none⟩ = some (.int .i64 a0_6) := (blk_cell BK187.out 6).trans rfl
       have hcz25_7 : w3.cell? ⟨gb187, 7, none⟩ = some (.int .i64 a0_7) := (blk_cell BK187.out 7).trans rfl
       have hcz25_8 : w3.cell? ⟨gb187, 8, none⟩ = some (.string a0_8) := (blk_cell BK187.out 8).trans rfl
       have hfz25_0 := blk_frozen BK187.out 0
       have hfz25_1 := blk_frozen BK187.out 1
       have hfz25_2 := blk_frozen BK187.out 2
       have hfz25_3 := blk_frozen BK187.out 3
       have hfz25_4 := blk_frozen BK187.out 4
       have hfz25_5 := blk_frozen BK187.out 5
       have hfz25_6 := blk_frozen BK187.out 6
       have hfz25_7 := blk_frozen BK187.out 7
       have hfz25_8 := blk_frozen BK187.out 8
       go_wp2_with (first | (go_at_call 53; (with_reducible refine (squelchref30_fits.calls a0_1 true _ A7.out).mono ?_); rintro e w' ⟨rfl, ⟨nd, rfl⟩⟩) | (go_at_call 53; (with_reducible refine (squelchref30_fits.calls a0_2 true _ A9.out).mono ?_); rintro e w' ⟨rfl, ⟨nd, rfl⟩⟩) | (go_at_call 53; (with_reducible refine (squelchref30_fits.calls a0_3 false _ A11.out).mono ?_); rintro e w' ⟨rfl, ⟨nd, rfl⟩⟩))
       go_meet
       case rel => exact ⟨_, (true), (by first | rfl | (simp; done) | (simp [*]; done) | (simp; exact (fun l : List UInt8 => (by cases l <;> rfl : l.isEmpty = !(l != []))) _)), H', ⟨by first | omega | exact Nat.le_refl _⟩, ⟨by (with_reducible repeat (first | refine blk_drewN ?_ _ | refine blk_drew ?_ | refine blk_alloc ?_ _)); exact BK187.out⟩, ⟨by repeat (first | (with_reducible first | exact HB.out | apply below_alloc | apply pw_below_drewN | apply below_drew1 | refine below_set ?_ GE187.out) | exact HB.out)⟩⟩
     ·replace c10 := Bool.eq_false_iff.mpr c10
      subst c10
      have H1 : (squelchref30_Right.j0 k a0_0 true a0_0 a0_1 a0_2 a0_3 a0_4 a0_5 a0_6 a0_7 a0_8) = some r := by rw [if_neg (show ¬ (false = true) by decide)] at H; exact H
      clear H
      have H := H1
      clear H1
      have H' := Aside0.mk H
      clear H
      have hcz26_0 : w3.cell? ⟨gb187, 0, none⟩ = some (.int .i64 a0_0) := (blk_cell BK187.out 0).trans rfl
      have hcz26_1 : w3.cell? ⟨gb187, 1, none⟩ = some (.int .i64 a0_1) := (blk_cell BK187.out 1).trans rfl
      have hcz26_2 : w3.cell? ⟨gb187, 2, none⟩ = some (.int .i64 a0_2) := (blk_cell BK187.out 2).trans rfl
      have hcz26_3 : w3.cell? ⟨gb187, 3, none⟩ = some (.int .i64 a0_3) := (blk_cell BK187.out 3).trans rfl
      have hcz26_4 : w3.cell? ⟨gb187, 4, none⟩ = some (.int .i64 a0_4) := (blk_cell BK187.out 4).trans rfl
      have hcz26_5 : w3.cell? ⟨gb187, 5, none⟩ = some (.string a0_5) := (blk_cell BK187.out 5).trans rfl
      have hcz26_6 : w3.cell? ⟨gb187, 6, none⟩ = some (.int .i64 a0_6) := (blk_cell BK187.out 6).trans rfl
      have hcz26_7 : w3.cell? ⟨gb187, 7, none⟩ = some (.int .i64 a0_7) := (blk_cell BK187.out 7).trans rfl
      have hcz26_8 : w3.cell? ⟨gb187, 8, none⟩ = some (.string a0_8) := (blk_cell BK187.out 8).trans rfl
      have hfz26_0 := blk_frozen BK187.out 0
      have hfz26_1 := blk_frozen BK187.out 1
      have hfz26_2 := blk_frozen BK187.out 2
      have hfz26_3 := blk_frozen BK187.out 3
      have hfz26_4 := blk_frozen BK187.out 4
      have hfz26_5 := blk_frozen BK187.out 5
      have hfz26_6 := blk_frozen BK187.out 6
      have hfz26_7 := blk_frozen BK187.out 7
      have hfz26_8 := blk_frozen BK187.out 8
      go_wp2_with (first | (go_at_call 53; (with_reducible refine (squelchref30_fits.calls a0_1 true _ A7.out).mono ?_); rintro e w' ⟨rfl, ⟨nd, rfl⟩⟩) | (go_at_call 53; (with_reducible refine (squelchref30_fits.calls a0_2 false _ A9.out).mono ?_); rintro e w' ⟨rfl, ⟨nd, rfl⟩⟩))
      go_meet
      case rel => exact ⟨_, (true), (by first | rfl | (simp; done) | (simp [*]; done) | (simp; exact (fun l : List UInt8 => (by cases l <;> rfl : l.isEmpty = !(l != []))) _)), H', ⟨by first | omega | exact Nat.le_refl _⟩, ⟨by (with_reducible repeat (first | refine blk_drewN ?_ _ | refine blk_drew ?_ | refine blk_alloc ?_ _)); exact BK187.out⟩, ⟨by repeat (first | (with_reducible first | exact HB.out | apply below_alloc | apply pw_below_drewN | apply below_drew1 | refine below_set ?_ GE187.out) | exact HB.out)⟩⟩
    ·replace c8 := Bool.eq_false_iff.mpr c8
     subst c8
     have H1 : (squelchref30_Right.j0 k a0_0 true a0_0 a0_1 a0_2 a0_3 a0_4 a0_5 a0_6 a0_7 a0_8) = some r := by rw [if_neg (show ¬ (false = true) by decide)] at H; exact H
     clear H
     have H := H1
     clear H1
     have H' := Aside0.mk H
     clear H
     have hcz27_0 : w3.cell? ⟨gb187, 0, none⟩ = some (.int .i64 a0_0) := (blk_cell BK187.out 0).trans rfl
     have hcz27_1 : w3.cell? ⟨gb187, 1, none⟩ = some (.int .i64 a0_1) := (blk_cell BK187.out 1).trans rfl
     have hcz27_2 : w3.cell? ⟨gb187, 2, none⟩ = some (.int .i64 a0_2) := (blk_cell BK187.out 2).trans rfl
     have hcz27_3 : w3.cell? ⟨gb187, 3, none⟩ = some (.int .i64 a0_3) := (blk_cell BK187.out 3).trans rfl
     have hcz27_4 : w3.cell? ⟨gb187, 4, none⟩ = some (.int .i64 a0_4) := (blk_cell BK187.out 4).trans rfl
     have hcz27_5 : w3.cell? ⟨gb187, 5, none⟩ = some (.string a0_5) := (blk_cell BK187.out 5).trans rfl
     have hcz27_6 : w3.cell? ⟨gb187, 6, none⟩ = some (.int .i64 a0_6) := (blk_cell BK187.out 6).trans rfl
     have hcz27_7 : w3.cell? ⟨gb187, 7, none⟩ = some (.int .i64 a0_7) := (blk_cell BK187.out 7).trans rfl
     have hcz27_8 : w3.cell? ⟨gb187, 8, none⟩ = some (.string a0_8) := (blk_cell BK187.out 8).trans rfl
     have hfz27_0 := blk_frozen BK187.out 0
     have hfz27_1 := blk_frozen BK187.out 1
     have hfz27_2 := blk_frozen BK187.out 2
     have hfz27_3 := blk_frozen BK187.out 3
     have hfz27_4 := blk_frozen BK187.out 4
     have hfz27_5 := blk_frozen BK187.out 5
     have hfz27_6 := blk_frozen BK187.out 6
     have hfz27_7 := blk_frozen BK187.out 7
     have hfz27_8 := blk_frozen BK187.out 8
     go_wp2_with (first | (go_at_call 53; (with_reducible refine (squelchref30_fits.calls a0_1 false _ A7.out).mono ?_); rintro e w' ⟨rfl, ⟨nd, rfl⟩⟩))
     go_meet
     case rel => exact ⟨_, (true), (by first | rfl | (simp; done) | (simp [*]; done) | (simp; exact (fun l : List UInt8 => (by cases l <;> rfl : l.isEmpty = !(l != []))) _)), H', ⟨by first | omega | exact Nat.le_refl _⟩, ⟨by (with_reducible repeat (first | refine blk_drewN ?_ _ | refine blk_drew ?_ | refine blk_alloc ?_ _)); exact BK187.out⟩, ⟨by repeat (first | (with_reducible first | exact HB.out | apply below_alloc | apply pw_below_drewN | apply below_drew1 | refine below_set ?_ GE187.out) | exact HB.out)⟩⟩
 case rest =>
  clear HC2
  try clear c1
  try clear c2
  try clear p2
  try clear c5
  try clear c5b0
  try clear c6
  try clear c6b0
  try clear c8
  try clear c10
  try clear c12
  try clear c14
  try clear c16
  try clear c18
  try clear c19
  try clear c19b0
  try clear c19b1
  try clear c21
  try clear hcz20_0
  try clear hcz20_1
  try clear hcz20_2
  try clear hcz20_3
  try clear hcz20_4
  try clear hcz20_5
  try clear hcz20_6
  try clear hcz20_7
  try clear hcz20_8
  try clear hcz21_0
  try clear hcz21_1
  try clear hcz21_2
  try clear hcz21_3
  try clear hcz21_4
  try clear hcz21_5
  try clear hcz21_6
  try clear hcz21_7
  try clear hcz21_8
  try clear hcz22_0
  try clear hcz22_1
  try clear hcz22_2
  try clear hcz22_3
  try clear hcz22_4
  try clear hcz22_5
  try clear hcz22_6
  try clear hcz22_7
  try clear hcz22_8
  try clear hcz23_0
  try clear hcz23_1
  try clear hcz23_2
  try clear hcz23_3
  try clear hcz23_4
  try clear hcz23_5
  try clear hcz23_6
  try clear hcz23_7
  try clear hcz23_8
  try clear hcz24_0
  try clear hcz24_1
  try clear hcz24_2
  try clear hcz24_3
  try clear hcz24_4
  try clear hcz24_5
  try clear hcz24_6
  try clear hcz24_7
  try clear hcz24_8
  try clear hcz25_0
  try clear hcz25_1
  try clear hcz25_2
  try clear hcz25_3
  try clear hcz25_4
  try clear hcz25_5
  try clear hcz25_6
  try clear hcz25_7
  try clear hcz25_8
  try clear hcz26_0
  try clear hcz26_1
  try clear hcz26_2
  try clear hcz26_3
  try clear hcz26_4
  try clear hcz26_5
  try clear hcz26_6
  try clear hcz26_7
  try clear hcz26_8
  try clear hcz27_0
  try clear hcz27_1
  try clear hcz27_2
  try clear hcz27_3
  try clear hcz27_4
  try clear hcz27_5
  try clear hcz27_6
  try clear hcz27_7
  try clear hcz27_8
  try clear hcz4_0
  try clear hcz4_1
  try clear hcz4_2
  try clear hcz4_3
  try clear hcz4_4
  try clear hcz4_5
  try clear hcz4_6
  try clear hcz4_7
  try clear hcz4_8
  try clear hfz20_0
  try clear hfz20_1
  try clear hfz20_2
  try clear hfz20_3
  try clear hfz20_4
  try clear hfz20_5
  try clear hfz20_6
  try clear hfz20_7
  try clear hfz20_8
  try clear hfz21_0
  try clear hfz21_1
  try clear hfz21_2
  try clear hfz21_3
  try clear hfz21_4
  try clear hfz21_5
  try clear hfz21_6
  try clear hfz21_7
  try clear hfz21_8
  try clear hfz22_0
  try clear hfz22_1
  try clear hfz22_2
  try clear hfz22_3
  try clear hfz22_4
  try clear hfz22_5
  try clear hfz22_6
  try clear hfz22_7
  try clear hfz22_8
  try clear hfz23_0
  try clear hfz23_1
  try clear hfz23_2
  try clear hfz23_3
  try clear hfz23_4
  try clear hfz23_5
  try clear hfz23_6
  try clear hfz23_7
  try clear hfz23_8
  try clear hfz24_0
  try clear hfz24_1
  try clear hfz24_2
  try clear hfz24_3
  try clear hfz24_4
  try clear hfz24_5
  try clear hfz24_6
  try clear hfz24_7
  try clear hfz24_8
  try clear hfz25_0
  try clear hfz25_1
  try clear hfz25_2
  try clear hfz25_3
  try clear hfz25_4
  try clear hfz25_5
  try clear hfz25_6
  try clear hfz25_7
  try clear hfz25_8
  try clear hfz26_0
  try clear hfz26_1
  try clear hfz26_2
  try clear hfz26_3
  try clear hfz26_4
  try clear hfz26_5
  try clear hfz26_6
  try clear hfz26_7
  try clear hfz26_8
  try clear hfz27_0
  try clear hfz27_1
  try clear hfz27_2
  try clear hfz27_3
  try clear hfz27_4
  try clear hfz27_5
  try clear hfz27_6
  try clear hfz27_7
  try clear hfz27_8
  try clear hfz4_0
  try clear hfz4_1
  try clear hfz4_2
  try clear hfz4_3
  try clear hfz4_4
  try clear hfz4_5
  try clear hfz4_6
  try clear hfz4_7
  try clear hfz4_8
  obtain ⟨kq, x59_1, rfl, HA, HJ1, BK187, HB⟩ := hcut
  cases kq with
  | zero => exact absurd HA.out (by simp [squelchref30_Right.j0])
  | succ kj1 =>
   have H := HA.out
   clear HA
   simp only [squelchref30_Right.j0] at H
   by_cases c28 : x59_1 = true
   ·subst c28
    have H1 : (some false) = some r := by rw [if_pos rfl] at H; exact H
    clear H
    have H := H1
    clear H1
    obtain rfl := Option.some.inj H
    go_wp2
    go_ret
    exact ⟨by first | rfl | (simp [errW_none, errW_some] <;> rfl) | (simp [*, errW_none, errW_some] <;> rfl), by repeat (first | (with_reducible first | exact HB.out | apply below_alloc | apply pw_below_drewN | apply below_drew1 | refine below_set ?_ GE187.out) | exact HB.out)⟩
   ·replace c28 := Bool.eq_false_iff.mpr c28
    subst c28
    have H1 : (if a0_0 > 2 then (if a0_5.toList = ([] : List UInt8) then (if a0_0 = 4 then (squelchref30_Right.j1 kj1 a0_0 (a0_1 != 0) a0_0 a0_1 a0_2 a0_3 a0_4 a0_5 a0_6 a0_7 a0_8) else (if a0_8.toList = ([] : List UInt8) then (squelchref30_Right.j1 kj1 a0_0 false a0_0 a0_1 a0_2 a0_3 a0_4 a0_5 a0_6 a0_7 a0_8) else (squelchref30_Right.j1 kj1 a0_0 true a0_0 a0_1 a0_2 a0_3 a0_4 a0_5 a0_6 a0_7 a0_8))) else (squelchref30_Right.j1 kj1 a0_0 true a0_0 a0_1 a0_2 a0_3 a0_4 a0_5 a0_6 a0_7 a0_8)) else (if a0_0 = 4 then (squelchref30_Right.j1 kj1 a0_0 (a0_1 != 0) a0_0 a0_1 a0_2 a0_3 a0_4 a0_5 a0_6 a0_7 a0_8) else (if a0_8.toList = ([] : List UInt8) then (squelchref30_Right.j1 kj1 a0_0 false a0_0 a0_1 a0_2 a0_3 a0_4 a0_5 a0_6 a0_7 a0_8) else (squelchref30_Right.j1 kj1 a0_0 true a0_0 a0_1 a0_2 a0_3 a0_4 a0_5 a0_6 a0_7 a0_8)))) = some r := by rw [if_neg (show ¬ (false = true) by decide)] at H; exact H
    clear H
    have H := H1
    clear H1
    have HC29 := Aside0.mk H
    clear H
    go_upto_region 4 with (fail)
    go_cut [84] (fun v84 wc => ∃ (kq : Nat) (x84_28 : Bool), v84 = .bool x84_28 ∧ Aside0 (squelchref30_Right.j1 kq a0_0 x84_28 a0_0 a0_1 a0_2 a0_3 a0_4 a0_5 a0_6 a0_7 a0_8 = some r) ∧ Aside0 (kq ≤ kj1) ∧ Aside0 (wc.heap[gb187]? = some (.cells #[.int .i64 a0_0, .int .i64 a0_1, .int .i64 a0_2, .int .i64 a0_3, .int .i64 a0_4, .string a0_5, .int .i64 a0_6, .int .i64 a0_7, .string a0_8] 31 (0, 0))) ∧ Aside0 (Below w.heap.size w wc))
    case first =>
     have H := HC29.out
     clear HC29
     by_cases c30 : a0_0 > 2
     ·rw [if_pos c30] at H
      have c30b0 : decide (2 < a0_0) = true := decide_eq_true c30
      clear c30
      (first | rw [c30b0] | (simp only [i64_w, i32_w]; rw [c30b0]) | skip)
      by_cases c31 : a0_5.toList = ([] : List UInt8)
      ·rw [if_pos c31] at H
       have c31b0 : (a0_5.toList == ([] : List UInt8)) = true := beq_iff_eq.mpr c31
       (try (have c31b0e : (a0_5.toList.isEmpty) = true := by simpa using c31b0))
       have c31b1 : (a0_5.toList != ([] : List UInt8)) = false := bne_eq_false_iff_eq.mpr c31
       clear c31
       by_cases c32 : a0_0 = 4
       ·rw [if_pos c32] at H
        have c32b0 : (a0_0 == 4) = true := beq_iff_eq.mpr c32
        have c32b1 : (a0_0 != 4) = false := bne_eq_false_iff_eq.mpr c32
        clear c32
        have H' := Aside0.mk H
        clear H
        have hcz33_0 : wc.cell? ⟨gb187, 0, none⟩ = some (.int .i64 a0_0) := (blk_cell BK187.out 0).trans rfl
        have hcz33_1 : wc.cell? ⟨gb187, 1, none⟩ = some (.int .i64 a0_1) := (blk_cell BK187.out 1).trans rfl
        have hcz33_2 : wc.cell? ⟨gb187, 2, none⟩ = some (.int .i64 a0_2) := (blk_cell BK187.out 2).trans rfl
        have hcz33_3 : wc.cell? ⟨gb187, 3, none⟩ = some (.int .i64 a0_3) := (blk_cell BK187.out 3).trans rfl
        have hcz33_4 : wc.cell? ⟨gb187, 4, none⟩ = some (.int .i64 a0_4) := (blk_cell BK187.out 4).trans rfl
        have hcz33_5 : wc.cell? ⟨gb187, 5, none⟩ = some (.string a0_5) := (blk_cell BK187.out 5).trans rfl
        have hcz33_6 : wc.cell? ⟨gb187, 6, none⟩ = some (.int .i64 a0_6) := (blk_cell BK187.out 6).trans rfl
        have hcz33_7 : wc.cell? ⟨gb187, 7, none⟩ = some (.int .i64 a0_7) := (blk_cell BK187.out 7).trans rfl
        have hcz33_8 : wc.cell? ⟨gb187, 8, none⟩ = some (.string a0_8) := (blk_cell BK187.out 8).trans rfl
        have hfz33_0 := blk_frozen BK187.out 0
        have hfz33_1 := blk_frozen BK187.out 1
        have hfz33_2 := blk_frozen BK187.out 2
        have hfz33_3 := blk_frozen BK187.out 3
        have hfz33_4 := blk_frozen BK187.out 4
        have hfz33_5 := blk_frozen BK187.out 5
        have hfz33_6 := blk_frozen BK187.out 6
        have hfz33_7 := blk_frozen BK187.out 7
        have hfz33_8 := blk_frozen BK187.out 8
        go_wp2
        go_meet
        case rel => exact ⟨_, ((a0_1 != 0)), (by first | rfl | (simp; done) | (simp [*]; done) | (simp; exact (fun l : List UInt8 => (by cases l <;> rfl : l.isEmpty = !(l != []))) _)), H', ⟨by have := HJ1.out; first | omega | exact Nat.le_refl _⟩, ⟨by (with_reducible repeat (first | refine blk_drewN ?_ _ | refine blk_drew ?_ | refine blk_alloc ?_ _)); exact BK187.out⟩, ⟨by repeat (first | (with_reducible first | exact HB.out | apply below_alloc | apply pw_below_drewN | apply below_drew1 | refine below_set ?_ GE187.out) | exact HB.out)⟩⟩
       ·rw [if_neg c32] at H
        have c32b0 : (a0_0 == 4) = false := beq_eq_false_iff_ne.mpr c32
        have c32b1 : (a0_0 != 4) = true := bne_iff_ne.mpr c32
        by_cases c34 : a0_8.toList = ([] : List UInt8)
        ·rw [if_pos c34] at H
         have c34b0 : (a0_8.toList == ([] : List UInt8)) = true := beq_iff_eq.mpr c34
         (try (have c34b0e : (a0_8.toList.isEmpty) = true := by simpa using c34b0))
         have c34b1 : (a0_8.toList != ([] : List UInt8)) = false := bne_eq_false_iff_eq.mpr c34
         clear c34
         have H' := Aside0.mk H
         clear H
         have hcz35_0 : wc.cell? ⟨gb187, 0, none⟩ = some (.int .i64 a0_0) := (blk_cell BK187.out 0).trans rfl
         have hcz35_1 : wc.cell? ⟨gb187, 1, none⟩ = some (.int .i64 a0_1) := (blk_cell BK187.out 1).trans rfl
         have hcz35_2 : wc.cell? ⟨gb187, 2, none⟩ = some (.int .i64 a0_2) := (blk_cell BK187.out 2).trans rfl
         have hcz35_3 : wc.cell? ⟨gb187, 3, none⟩ = some (.int .i64 a0_3) := (blk_cell BK187.out 3).trans rfl
         have hcz35_4 : wc.cell? ⟨gb187, 4, none⟩ = some (.int .i64 a0_4) := (blk_cell BK187.out 4).trans rfl
         have hcz35_5 : wc.cell? ⟨gb187, 5, none⟩ = some (.string a0_5) := (blk_cell BK187.out 5).trans rfl
         have hcz35_6 : wc.cell? ⟨gb187, 6, none⟩ = some (.int .i64 a0_6) := (blk_cell BK187.out 6).trans rfl
         have hcz35_7 : wc.cell? ⟨gb187, 7, none⟩ = some (.int .i64 a0_7) := (blk_cell BK187.out 7).trans rfl
         have hcz35_8 : wc.cell? ⟨gb187, 8, none⟩ = some (.string a0_8) := (blk_cell BK187.out 8).trans rfl
         have hfz35_0 := blk_frozen BK187.out 0
         have hfz35_1 := blk_frozen BK187.out 1
         have hfz35_2 := blk_frozen BK187.out 2
         have hfz35_3 := blk_frozen BK187.out 3
         have hfz35_4 := blk_frozen BK187.out 4
         have hfz35_5 := blk_frozen BK187.out 5
         have hfz35_6 := blk_frozen BK187.out 6
         have hfz35_7 := blk_frozen BK187.out 7
         have hfz35_8 := blk_frozen BK187.out 8
         go_wp2
         go_meet
         case rel => exact ⟨_, (false), (by first | rfl | (simp; done) | (simp [*]; done) | (simp; exact (fun l : List UInt8 => (by cases l <;> rfl : l.isEmpty = !(l != []))) _)), H', ⟨by have := HJ1.out; first | omega | exact Nat.le_refl _⟩, ⟨by (with_reducible repeat (first | refine blk_drewN ?_ _ | refine blk_drew ?_ | refine blk_alloc ?_ _)); exact BK187.out⟩, ⟨by repeat (first | (with_reducible first | exact HB.out | apply below_alloc | apply pw_below_drewN | apply below_drew1 | refine below_set ?_ GE187.out) | exact HB.out)⟩⟩
        ·rw [if_neg c34] at H
         have c34b0 : (a0_8.toList == ([] : List UInt8)) = false := beq_eq_false_iff_ne.mpr c34
         (try (have c34b0e : (a0_8.toList.isEmpty) = false := by simpa using c34b0))
         have c34b1 : (a0_8.toList != ([] : List UInt8)) = true := bne_iff_ne.mpr c34
         have H' := Aside0.mk H
         clear H
         have hcz36_0 : wc.cell? ⟨gb187, 0, none⟩ = some (.int .i64 a0_0) := (blk_cell BK187.out 0).trans rfl
         have hcz36_1 : wc.cell? ⟨gb187, 1, none⟩ = some (.int .i64 a0_1) := (blk_cell BK187.out 1).trans rfl
         have hcz36_2 : wc.cell? ⟨gb187, 2, none⟩ = some (.int .i64 a0_2) := (blk_cell BK187.out 2).trans rfl
         have hcz36_3 : wc.cell? ⟨gb187, 3, none⟩ = some (.int .i64 a0_3) := (blk_cell BK187.out 3).trans rfl
         have hcz36_4 : wc.cell? ⟨gb187, 4, none⟩ = some (.int .i64 a0_4) := (blk_cell BK187.out 4).trans rfl
         have hcz36_5 : wc.cell? ⟨gb187, 5, none⟩ = some (.string a0_5) := (blk_cell BK187.out 5).trans rfl
         have hcz36_6 : wc.cell? ⟨gb187, 6, none⟩ = some (.int .i64 a0_6) := (blk_cell BK187.out 6).trans rfl
         have hcz36_7 : wc.cell? ⟨gb187, 7, none⟩ = some (.int .i64 a0_7) := (blk_cell BK187.out 7).trans rfl
         have hcz36_8 : wc.cell? ⟨gb187, 8, none⟩ = some (.string a0_8) := (blk_cell BK187.out 8).trans rfl
         have hfz36_0 := blk_frozen BK187.out 0
         have hfz36_1 := blk_frozen BK187.out 1
         have hfz36_2 := blk_frozen BK187.out 2
         have hfz36_3 := blk_frozen BK187.out 3
         have hfz36_4 := blk_frozen BK187.out 4
         have hfz36_5 := blk_frozen BK187.out 5
         have hfz36_6 := blk_frozen BK187.out 6
         have hfz36_7 := blk_frozen BK187.out 7
         have hfz36_8 := blk_frozen BK187.out 8
         go_wp2
         go_meet
         case rel => exact ⟨_, (true), (by first | rfl | (simp; done) | (simp [*]; done) | (simp; exact (fun l : List UInt8 => (by cases l <;> rfl : l.isEmpty = !(l != []))) _)), H', ⟨by have := HJ1.out; first | omega | exact Nat.le_refl _⟩, ⟨by (with_reducible repeat (first | refine blk_drewN ?_ _ | refine blk_drew ?_ | refine blk_alloc ?_ _)); exact BK187.out⟩, ⟨by repeat (first | (with_reducible first | exact HB.out | apply below_alloc | apply pw_below_drewN | apply below_drew1 | refine below_set ?_ GE187.out) | exact HB.out)⟩⟩
      ·rw [if_neg c31] at H
       have c31b0 : (a0_5.toList == ([] : List UInt8)) = false := beq_eq_false_iff_ne.mpr c31
       (try (have c31b0e : (a0_5.toList.isEmpty) = false := by simpa using c31b0))
       have c31b1 : (a0_5.toList != ([] : List UInt8)) = true := bne_iff_ne.mpr c31
       have H' := Aside0.mk H
       clear H
       have hcz37_0 : wc.cell? ⟨gb187, 0, none⟩ = some (.int .i64 a0_0) := (blk_cell BK187.out 0).trans rfl
       have hcz37_1 : wc.cell? ⟨gb187, 1, none⟩ = some (.int .i64 a0_1) := (blk_cell BK187.out 1).trans rfl
       have hcz37_2 : wc.cell? ⟨gb187, 2, none⟩ = some (.int .i64 a0_2) := (blk_cell BK187.out 2).trans rfl
       have hcz37_3 : wc.cell? ⟨gb187, 3, none⟩ = some (.int .i64 a0_3) := (blk_cell BK187.out 3).trans rfl
       have hcz37_4 : wc.cell? ⟨gb187, 4, none⟩ = some (.int .i64 a0_4) := (blk_cell BK187.out 4).trans rfl
       have hcz37_5 : wc.cell? ⟨gb187, 5, none⟩ = some (.string a0_5) := (blk_cell BK187.out 5).trans rfl
       have hcz37_6 : wc.cell? ⟨gb187, 6, none⟩ = some (.int .i64 a0_6) := (blk_cell BK187.out 6).trans rfl
       have hcz37_7 : wc.cell? ⟨gb187, 7, none⟩ = some (.int .i64 a0_7) := (blk_cell BK187.out 7).trans rfl
       have hcz37_8 : wc.cell? ⟨gb187, 8, none⟩ = some (.string a0_8) := (blk_cell BK187.out 8).trans rfl
       have hfz37_0 := blk_frozen BK187.out 0
       have hfz37_1 := blk_frozen BK187.out 1
       have hfz37_2 := blk_frozen BK187.out 2
       have hfz37_3 := blk_frozen BK187.out 3
       have hfz37_4 := blk_frozen BK187.out 4
       have hfz37_5 := blk_frozen BK187.out 5
       have hfz37_6 := blk_frozen BK187.out 6
       have hfz37_7 := blk_frozen BK187.out 7
       have hfz37_8 := blk_frozen BK187.out 8
       go_wp2
       go_meet
       case rel => exact ⟨_, (true), (by first | rfl | (simp; done) | (simp [*]; done) | (simp; exact (fun l : List UInt8 => (by cases l <;> rfl : l.isEmpty = !(l != []))) _)), H', ⟨by have := HJ1.out; first | omega | exact Nat.le_refl _⟩, ⟨by (with_reducible repeat (first | refine blk_drewN ?_ _ | refine blk_drew ?_ | refine blk_alloc ?_ _)); exact BK187.out⟩, ⟨by repeat (first | (with_reducible first | exact HB.out | apply below_alloc | apply pw_below_drewN | apply below_drew1 | refine below_set ?_ GE187.out) | exact HB.out)⟩⟩
     ·rw [if_neg c30] at H
      have c30b0 : decide (2 < a0_0) = false := decide_eq_false c30
      clear c30
      (first | rw [c30b0] | (simp only [i64_w, i32_w]; rw [c30b0]) | skip)
      by_cases c38 : a0_0 = 4
      ·rw [if_pos c38] at H
       have c38b0 : (a0_0 == 4) = true := beq_iff_eq.mpr c38
       have c38b1 : (a0_0 != 4) = false := bne_eq_false_iff_eq.mpr c38
       clear c38
       have H' := Aside0.mk H
       clear H
       have hcz39_0 : wc.cell? ⟨gb187, 0, none⟩ = some (.int .i64 a0_0) := (blk_cell BK187.out 0).trans rfl
       have hcz39_1 : wc.cell? ⟨gb187, 1, none⟩ = some (.int .i64 a0_1) := (blk_cell BK187.out 1).trans rfl
       have hcz39_2 : wc.cell? ⟨gb187, 2, none⟩ = some (.int .i64 a0_2) := (blk_cell BK187.out 2).trans rfl
       have hcz39_3 : wc.cell? ⟨gb187, 3, none⟩ = some (.int .i64 a0_3) := (blk_cell BK187.out 3).trans rfl
       have hcz39_4 : wc.cell? ⟨gb187, 4, none⟩ = some (.int .i64 a0_4) := (blk_cell BK187.out 4).trans rfl
       have hcz39_5 : wc.cell? ⟨gb187, 5, none⟩ = some (.string a0_5) := (blk_cell BK187.out 5).trans rfl
       have hcz39_6 : wc.cell? ⟨gb187, 6, none⟩ = some (.int .i64 a0_6) := (blk_cell BK187.out 6).trans rfl
       have hcz39_7 : wc.cell? ⟨gb187, 7, none⟩ = some (.int .i64 a0_7) := (blk_cell BK187.out 7).trans rfl
       have hcz39_8 : wc.cell? ⟨gb187, 8, none⟩ = some (.string a0_8) := (blk_cell BK187.out 8).trans rfl
       have hfz39_0 := blk_frozen BK187.out 0
       have hfz39_1 := blk_frozen BK187.out 1
       have hfz39_2 := blk_frozen BK187.out 2
       have hfz39_3 := blk_frozen BK187.out 3
       have hfz39_4 := blk_frozen BK187.out 4
       have hfz39_5 := blk_frozen BK187.out 5
       have hfz39_6 := blk_frozen BK187.out 6
       have hfz39_7 := blk_frozen BK187.out 7
       have hfz39_8 := blk_frozen BK187.out 8
       go_wp2
       go_meet
       case rel => exact ⟨_, ((a0_1 != 0)), (by first | rfl | (simp; done) | (simp [*]; done) | (simp; exact (fun l : List UInt8 => (by cases l <;> rfl : l.isEmpty = !(l != []))) _)), H', ⟨by have := HJ1.out; first | omega | exact Nat.le_refl _⟩, ⟨by (with_reducible repeat (first | refine blk_drewN ?_ _ | refine blk_drew ?_ | refine blk_alloc ?_ _)); exact BK187.out⟩, ⟨by repeat (first | (with_reducible first | exact HB.out | apply below_alloc | apply pw_below_drewN | apply below_drew1 | refine below_set ?_ GE187.out) | exact HB.out)⟩⟩
      ·rw [if_neg c38] at H
       have c38b0 : (a0_0 == 4) = false := beq_eq_false_iff_ne.mpr c38
       have c38b1 : (a0_0 != 4) = true := bne_iff_ne.mpr c38
       by_cases c40 : a0_8.toList = ([] : List UInt8)
       ·rw [if_pos c40] at H
        have c40b0 : (a0_8.toList == ([] : List UInt8)) = true := beq_iff_eq.mpr c40
        (try (have c40b0e : (a0_8.toList.isEmpty) = true := by simpa using c40b0))
        have c40b1 : (a0_8.toList != ([] : List UInt8)) = false := bne_eq_false_iff_eq.mpr c40
        clear c40
        have H' := Aside0.mk H
        clear H
        have hcz41_0 : wc.cell? ⟨gb187, 0, none⟩ = some (.int .i64 a0_0) := (blk_cell BK187.out 0).trans rfl
        have hcz41_1 : wc.cell? ⟨gb187, 1, none⟩ = some (.int .i64 a0_1) := (blk_cell BK187.out 1).trans rfl
        have hcz41_2 : wc.cell? ⟨gb187, 2, none⟩ = some (.int .i64 a0_2) := (blk_cell BK187.out 2).trans rfl
        have hcz41_3 : wc.cell? ⟨gb187, 3, none⟩ = some (.int .i64 a0_3) := (blk_cell BK187.out 3).trans rfl
        have hcz41_4 : wc.cell? ⟨gb187, 4, none⟩ = some (.int .i64 a0_4) := (blk_cell BK187.out 4).trans rfl
        have hcz41_5 : wc.cell? ⟨gb187, 5, none⟩ = some (.string a0_5) := (blk_cell BK187.out 5).trans rfl
        have hcz41_6 : wc.cell? ⟨gb187, 6, none⟩ = some (.int .i64 a0_6) := (blk_cell BK187.out 6).trans rfl
        have hcz41_7 : wc.cell? ⟨gb187, 7, none⟩ = some (.int .i64 a0_7) := (blk_cell BK187.out 7).trans rfl
        have hcz41_8 : wc.cell? ⟨gb187, 8, none⟩ = some (.string a0_8) := (blk_cell BK187.out 8).trans rfl
        have hfz41_0 := blk_frozen BK187.out 0
        have hfz41_1 := blk_frozen BK187.out 1
        have hfz41_2 := blk_frozen BK187.out 2
        have hfz41_3 := blk_frozen BK187.out 3
        have hfz41_4 := blk_frozen BK187.out 4
        have hfz41_5 := blk_frozen BK187.out 5
        have hfz41_6 := blk_frozen BK187.out 6
        have hfz41_7 := blk_frozen BK187.out 7
        have hfz41_8 := blk_frozen BK187.out 8
        go_wp2
        go_meet
        case rel => exact ⟨_, (false), (by first | rfl | (simp; done) | (simp [*]; done) | (simp; exact (fun l : List UInt8 => (by cases l <;> rfl : l.isEmpty = !(l != []))) _)), H', ⟨by have := HJ1.out; first | omega | exact Nat.le_refl _⟩, ⟨by (with_reducible repeat (first | refine blk_drewN ?_ _ | refine blk_drew ?_ | refine blk_alloc ?_ _)); exact BK187.out⟩, ⟨by repeat (first | (with_reducible first | exact HB.out | apply below_alloc | apply pw_below_drewN | apply below_drew1 | refine below_set ?_ GE187.out) | exact HB.out)⟩⟩
       ·rw [if_neg c40] at H
        have c40b0 : (a0_8.toList == ([] : List UInt8)) = false := beq_eq_false_iff_ne.mpr c40
        (try (have c40b0e : (a0_8.toList.isEmpty) = false := by simpa using c40b0))
        have c40b1 : (a0_8.toList != ([] : List UInt8)) = true := bne_iff_ne.mpr c40
        have H' := Aside0.mk H
        clear H
        have hcz42_0 : wc.cell? ⟨gb187, 0, none⟩ = some (.int .i64 a0_0) := (blk_cell BK187.out 0).trans rfl
        have hcz42_1 : wc.cell? ⟨gb187, 1, none⟩ = some (.int .i64 a0_1) := (blk_cell BK187.out 1).trans rfl
        have hcz42_2 : wc.cell? ⟨gb187, 2, none⟩ = some (.int .i64 a0_2) := (blk_cell BK187.out 2).trans rfl
        have hcz42_3 : wc.cell? ⟨gb187, 3, none⟩ = some (.int .i64 a0_3) := (blk_cell BK187.out 3).trans rfl
        have hcz42_4 : wc.cell? ⟨gb187, 4, none⟩ = some (.int .i64 a0_4) := (blk_cell BK187.out 4).trans rfl
        have hcz42_5 : wc.cell? ⟨gb187, 5, none⟩ = some (.string a0_5) := (blk_cell BK187.out 5).trans rfl
        have hcz42_6 : wc.cell? ⟨gb187, 6, none⟩ = some (.int .i64 a0_6) := (blk_cell BK187.out 6).trans rfl
        have hcz42_7 : wc.cell? ⟨gb187, 7, none⟩ = some (.int .i64 a0_7) := (blk_cell BK187.out 7).trans rfl
        have hcz42_8 : wc.cell? ⟨gb187, 8, none⟩ = some (.string a0_8) := (blk_cell BK187.out 8).trans rfl
        have hfz42_0 := blk_frozen BK187.out 0
        have hfz42_1 := blk_frozen BK187.out 1
        have hfz42_2 := blk_frozen BK187.out 2
        have hfz42_3 := blk_frozen BK187.out 3
        have hfz42_4 := blk_frozen BK187.out 4
        have hfz42_5 := blk_frozen BK187.out 5
        have hfz42_6 := blk_frozen BK187.out 6
        have hfz42_7 := blk_frozen BK187.out 7
        have hfz42_8 := blk_frozen BK187.out 8
        go_wp2
        go_meet
        case rel => exact ⟨_, (true), (by first | rfl | (simp; done) | (simp [*]; done) | (simp; exact (fun l : List UInt8 => (by cases l <;> rfl : l.isEmpty = !(l != []))) _)), H', ⟨by have := HJ1.out; first | omega | exact Nat.le_refl _⟩, ⟨by (with_reducible repeat (first | refine blk_drewN ?_ _ | refine blk_drew ?_ | refine blk_alloc ?_ _)); exact BK187.out⟩, ⟨by repeat (first | (with_reducible first | exact HB.out | apply below_alloc | apply pw_below_drewN | apply below_drew1 | refine below_set ?_ GE187.out) | exact HB.out)⟩⟩
    case rest =>
     clear HC29
     try clear c1
     try clear c2
     try clear p2
     try clear c3
     try clear c4
     try clear c5
     try clear c5b0
     try clear c6
     try clear c6b0
     try clear c8
     try clear c10
     try clear c12
     try clear c14
     try clear c16
     try clear c18
     try clear c19
     try clear c19b0
     try clear c19b1
     try clear c21
     try clear c28
     try clear c30
     try clear c30b0
     try clear c31
     try clear c31b0
     try clear c31b1
     try clear c32
     try clear c32b0
     try clear c32b1
     try clear c34
     try clear c34b0
     try clear c34b1
     try clear c38
     try clear c38b0
     try clear c38b1
     try clear c40
     try clear c40b0
     try clear c40b1
     try clear hcz20_0
     try clear hcz20_1
     try clear hcz20_2
     try clear hcz20_3
     try clear hcz20_4
     try clear hcz20_5
     try clear hcz20_6
     try clear hcz20_7
     try clear hcz20_8
     try clear hcz21_0
     try clear hcz21_1
     try clear hcz21_2
     try clear hcz21_3
     try clear hcz21_4
     try clear hcz21_5
     try clear hcz21_6
     try clear hcz21_7
     try clear hcz21_8
     try clear hcz22_0
     try clear hcz22_1
     try clear hcz22_2
     try clear hcz22_3
     try clear hcz22_4
     try clear hcz22_5
     try clear hcz22_6
     try clear hcz22_7
     try clear hcz22_8
     try clear hcz23_0
     try clear hcz23_1
     try clear hcz23_2
     try clear hcz23_3
     try clear hcz23_4
     try clear hcz23_5
     try clear hcz23_6
     try clear hcz23_7
     try clear hcz23_8
     try clear hcz24_0
     try clear hcz24_1
     try clear hcz24_2
     try clear hcz24_3
     try clear hcz24_4
     try clear hcz24_5
     try clear hcz24_6
     try clear hcz24_7
     try clear hcz24_8
     try clear hcz25_0
     try clear hcz25_1
     try clear hcz25_2
     try clear hcz25_3
     try clear hcz25_4
     try clear hcz25_5
     try clear hcz25_6
     try clear hcz25_7
     try clear hcz25_8
     try clear hcz26_0
     try clear hcz26_1
     try clear hcz26_2
     try clear hcz26_3
     try clear hcz26_4
     try clear hcz26_5
     try clear hcz26_6
     try clear hcz26_7
     try clear hcz26_8
     try clear hcz27_0
     try clear hcz27_1
     try clear hcz27_2
     try clear hcz27_3
     try clear hcz27_4
     try clear hcz27_5
     try clear hcz27_6
     try clear hcz27_7
     try clear hcz27_8
     try clear hcz33_0
     try clear hcz33_1
     try clear hcz33_2
     try clear hcz33_3
     try clear hcz33_4
     try clear hcz33_5
     try clear hcz33_6
     try clear hcz33_7
     try clear hcz33_8
     try clear hcz35_0
     try clear hcz35_1
     try clear hcz35_2
     try clear hcz35_3
     try clear hcz35_4
     try clear hcz35_5
     try clear hcz35_6
     try clear hcz35_7
     try clear hcz35_8
     try clear hcz36_0
     try clear hcz36_1
     try clear hcz36_2
     try clear hcz36_3
     try clear hcz36_4
     try clear hcz36_5
     try clear hcz36_6
     try clear hcz36_7
     try clear hcz36_8
     try clear hcz37_0
     try clear hcz37_1
     try clear hcz37_2
     try clear hcz37_3
     try clear hcz37_4
     try clear hcz37_5
     try clear hcz37_6
     try clear hcz37_7
     try clear hcz37_8
     try clear hcz39_0
     try clear hcz39_1
     try clear hcz39_2
     try clear hcz39_3
     try clear hcz39_4
     try clear hcz39_5
     try clear hcz39_6
     try clear hcz39_7
     try clear hcz39_8
     try clear hcz41_0
     try clear hcz41_1
     try clear hcz41_2
     try clear hcz41_3
     try clear hcz41_4
     try clear hcz41_5
     try clear hcz41_6
     try clear hcz41_7
     try clear hcz41_8
     try clear hcz42_0
     try clear hcz42_1
     try clear hcz42_2
     try clear hcz42_3
     try clear hcz42_4
     try clear hcz42_5
     try clear hcz42_6
     try clear hcz42_7
     try clear hcz42_8
     try clear hcz4_0
     try clear hcz4_1
     try clear hcz4_2
     try clear hcz4_3
     try clear hcz4_4
     try clear hcz4_5
     try clear hcz4_6
     try clear hcz4_7
     try clear hcz4_8
     try clear hfz20_0
     try clear hfz20_1
     try clear hfz20_2
     try clear hfz20_3
     try clear hfz20_4
     try clear hfz20_5
     try clear hfz20_6
     try clear hfz20_7
     try clear hfz20_8
     try clear hfz21_0
     try clear hfz21_1
     try clear hfz21_2
     try clear hfz21_3
     try clear hfz21_4
     try clear hfz21_5
     try clear hfz21_6
     try clear hfz21_7
     try clear hfz21_8
     try clear hfz22_0
     try clear hfz22_1
     try clear hfz22_2
     try clear hfz22_3
     try clear hfz22_4
     try clear hfz22_5
     try clear hfz22_6
     try clear hfz22_7
     try clear hfz22_8
     try clear hfz23_0
     try clear hfz23_1
     try clear hfz23_2
     try clear hfz23_3
     try clear hfz23_4
     try clear hfz23_5
     try clear hfz23_6
     try clear hfz23_7
     try clear hfz23_8
     try clear hfz24_0
     try clear hfz24_1
     try clear hfz24_2
     try clear hfz24_3
     try clear hfz24_4
     try clear hfz24_5
     try clear hfz24_6
     try clear hfz24_7
     try clear hfz24_8
     try clear hfz25_0
     try clear hfz25_1
     try clear hfz25_2
     try clear hfz25_3
     try clear hfz25_4
     try clear hfz25_5
     try clear hfz25_6
     try clear hfz25_7
     try clear hfz25_8
     try clear hfz26_0
     try clear hfz26_1
     try clear hfz26_2
     try clear hfz26_3
     try clear hfz26_4
     try clear hfz26_5
     try clear hfz26_6
     try clear hfz26_7
     try clear hfz26_8
     try clear hfz27_0
     try clear hfz27_1
     try clear hfz27_2
     try clear hfz27_3
     try clear hfz27_4
     try clear hfz27_5
     try clear hfz27_6
     try clear hfz27_7
     try clear hfz27_8
     try clear hfz33_0
     try clear hfz33_1
     try clear hfz33_2
     try clear hfz33_3
     try clear hfz33_4
     try clear hfz33_5
     try clear hfz33_6
     try clear hfz33_7
     try clear hfz33_8
     try clear hfz35_0
     try clear hfz35_1
     try clear hfz35_2
     try clear hfz35_3
     try clear hfz35_4
     try clear hfz35_5
     try clear hfz35_6
     try clear hfz35_7
     try clear hfz35_8
     try clear hfz36_0
     try clear hfz36_1
     try clear hfz36_2
     try clear hfz36_3
     try clear hfz36_4
     try clear hfz36_5
     try clear hfz36_6
     try clear hfz36_7
     try clear hfz36_8
     try clear hfz37_0
     try clear hfz37_1
     try clear hfz37_2
     try clear hfz37_3
     try clear hfz37_4
     try clear hfz37_5
     try clear hfz37_6
     try clear hfz37_7
     try clear hfz37_8
     try clear hfz39_0
     try clear hfz39_1
     try clear hfz39_2
     try clear hfz39_3
     try clear hfz39_4
     try clear hfz39_5
     try clear hfz39_6
     try clear hfz39_7
     try clear hfz39_8
     try clear hfz41_0
     try clear hfz41_1
     try clear hfz41_2
     try clear hfz41_3
     try clear hfz41_4
     try clear hfz41_5
     try clear hfz41_6
     try clear hfz41_7
     try clear hfz41_8
     try clear hfz42_0
     try clear hfz42_1
     try clear hfz42_2
     try clear hfz42_3
     try clear hfz42_4
     try clear hfz42_5
     try clear hfz42_6
     try clear hfz42_7
     try clear hfz42_8
     try clear hfz4_0
     try clear hfz4_1
     try clear hfz4_2
     try clear hfz4_3
     try clear hfz4_4
     try clear hfz4_5
     try clear hfz4_6
     try clear hfz4_7
     try clear hfz4_8
     try clear p2
     obtain ⟨kq, x84_28, rfl, HA, HJ28, BK187, HB⟩ := hcut
     cases kq with
     | zero => exact absurd HA.out (by simp [squelchref30_Right.j1])
     | succ kj28 =>
      have H := HA.out
      clear HA
      simp only [squelchref30_Right.j1] at H
      by_cases c43 : x84_28 = true
      ·subst c43
       have H1 : (some false) = some r := by rw [if_pos rfl] at H; exact H
       clear H
       have H := H1
       clear H1
       obtain rfl := Option.some.inj H
       go_wp2
       go_ret
       exact ⟨by first | rfl | (simp [errW_none, errW_some] <;> rfl) | (simp [*, errW_none, errW_some] <;> rfl), by repeat (first | (with_reducible first | exact HB.out | apply below_alloc | apply pw_below_drewN | apply below_drew1 | refine below_set ?_ GE187.out) | exact HB.out)⟩
      ·replace c43 := Bool.eq_false_iff.mpr c43
       subst c43
       have H1 : (if a0_0 < 5 then (if a0_2 = 0 then (if a0_0 = 6 then (if a0_0 ≥ 9 then (some true) else (if a0_6 = 0 then (some (a0_7 == 0)) else (some false))) else (if a0_4 = 0 then (if a0_0 = 9 then (if a0_0 ≥ 9 then (some true) else (if a0_6 = 0 then (some (a0_7 == 0)) else (some false))) else (if a0_3 = 0 then (if a0_0 ≥ 9 then (some true) else (if a0_6 = 0 then (some (a0_7 == 0)) else (some false))) else (some false))) else (some false))) else (some false)) else (if a0_0 > 8 then (if a0_2 = 0 then (if a0_0 = 6 then (if a0_0 ≥ 9 then (some true) else (if a0_6 = 0 then (some (a0_7 == 0)) else (some false))) else (if a0_4 = 0 then (if a0_0 = 9 then (if a0_0 ≥ 9 then (some true) else (if a0_6 = 0 then (some (a0_7 == 0)) else (some false))) else (if a0_3 = 0 then (if a0_0 ≥ 9 then (some true) else (if a0_6 = 0 then (some (a0_7 == 0)) else (some false))) else (some false))) else (some false))) else (some false)) else (if a0_0 = 6 then (if a0_0 ≥ 9 then (some true) else (if a0_6 = 0 then (some (a0_7 == 0)) else (some false))) else (if a0_4 = 0 then (if a0_0 = 9 then (if a0_0 ≥ 9 then (some true) else (if a0_6 = 0 then (some (a0_7 == 0)) else (some false))) else (if a0_3 = 0 then (if a0_0 ≥ 9 then (some true) else (if a0_6 = 0 then (some (a0_7 == 0)) else (some false))) else (some false))) else (some false))))) = some r := by rw [if_neg (show ¬ (false = true) by decide)] at H; exact H
       clear H
       have H := H1
       clear H1
       by_cases c44 : a0_0 < 5
       ·rw [if_pos c44] at H
        have c44b0 : decide (a0_0 < 5) = true := decide_eq_true c44
        clear c44
        by_cases c45 : a0_2 = 0
        ·rw [if_pos c45] at H
         have c45b0 : (a0_2 == 0) = true := beq_iff_eq.mpr c45
         have c45b1 : (a0_2 != 0) = false := bne_eq_false_iff_eq.mpr c45
         clear c45
         by_cases c46 : a0_0 = 6
         ·rw [if_pos c46] at H
          have c46b0 : (a0_0 == 6) = true := beq_iff_eq.mpr c46
          have c46b1 : (a0_0 != 6) = false := bne_eq_false_iff_eq.mpr c46
          clear c46
          by_cases c47 : a0_0 ≥ 9
          ·rw [if_pos c47] at H
           have c47b0 : decide (9 ≤ a0_0) = true := decide_eq_true c47
           clear c47
           obtain rfl := Option.some.inj H
           have hcz48_0 : wc.cell? ⟨gb187, 0, none⟩ = some (.int .i64 a0_0) := (blk_cell BK187.out 0).trans rfl
           have hcz48_1 : wc.cell? ⟨gb187, 1, none⟩ = some (.int .i64 a0_1) := (blk_cell BK187.out 1).trans rfl
           have hcz48_2 : wc.cell? ⟨gb187, 2, none⟩ = some (.int .i64 a0_2) := (blk_cell BK187.out 2).trans rfl
           have hcz48_3 : wc.cell? ⟨gb187, 3, none⟩ = some (.int .i64 a0_3) := (blk_cell BK187.out 3).trans rfl
           have hcz48_4 : wc.cell? ⟨gb187, 4, none⟩ = some (.int .i64 a0_4) := (blk_cell BK187.out 4).trans rfl
           have hcz48_5 : wc.cell? ⟨gb187, 5, none⟩ = some (.string a0_5) := (blk_cell BK187.out 5).trans rfl
           have hcz48_6 : wc.cell? ⟨gb187, 6, none⟩ = some (.int .i64 a0_6) := (blk_cell BK187.out 6).trans rfl
           have hcz48_7 : wc.cell? ⟨gb187, 7, none⟩ = some (.int .i64 a0_7) := (blk_cell BK187.out 7).trans rfl
           have hcz48_8 : wc.cell? ⟨gb187, 8, none⟩ = some (.string a0_8) := (blk_cell BK187.out 8).trans rfl
           have hfz48_0 := blk_frozen BK187.out 0
           have hfz48_1 := blk_frozen BK187.out 1
           have hfz48_2 := blk_frozen BK187.out 2
           have hfz48_3 := blk_frozen BK187.out 3
           have hfz48_4 := blk_frozen BK187.out 4
           have hfz48_5 := blk_frozen BK187.out 5
           have hfz48_6 := blk_frozen BK187.out 6
           have hfz48_7 := blk_frozen BK187.out 7
           have hfz48_8 := blk_frozen BK187.out 8
           go_wp2
           go_ret
           exact ⟨by first | rfl | (simp [errW_none, errW_some] <;> rfl) | (simp [*, errW_none, errW_some] <;> rfl), by repeat (first | (with_reducible first | exact HB.out | apply below_alloc | apply pw_below_drewN | apply below_drew1 | refine below_set ?_ GE187.out) | exact HB.out)⟩
          ·rw [if_neg c47] at H
           have c47b0 : decide (9 ≤ a0_0) = false := decide_eq_false c47
           clear c47
           by_cases c49 : a0_6 = 0
           ·rw [if_pos c49] at H
            have c49b0 : (a0_6 == 0) = true := beq_iff_eq.mpr c49
            have c49b1 : (a0_6 != 0) = false := bne_eq_false_iff_eq.mpr c49
            clear c49
            obtain rfl := Option.some.inj H
            have hcz50_0 : wc.cell? ⟨gb187, 0, none⟩ = some (.int .i64 a0_0) := (blk_cell BK187.out 0).trans rfl
            have hcz50_1 : wc.cell? ⟨gb187, 1, none⟩ = some (.int .i64 a0_1) := (blk_cell BK187.out 1).trans rfl
            have hcz50_2 : wc.cell? ⟨gb187, 2, none⟩ = some (.int .i64 a0_2) := (blk_cell BK187.out 2).trans rfl
            have hcz50_3 : wc.cell? ⟨gb187, 3, none⟩ = some (.int .i64 a0_3) := (blk_cell BK187.out 3).trans rfl
            have hcz50_4 : wc.cell? ⟨gb187, 4, none⟩ = some (.int .i64 a0_4) := (blk_cell BK187.out 4).trans rfl
            have hcz50_5 : wc.cell? ⟨gb187, 5, none⟩ = some (.string a0_5) := (blk_cell BK187.out 5).trans rfl
            have hcz50_6 : wc.cell? ⟨gb187, 6, none⟩ = some (.int .i64 a0_6) := (blk_cell BK187.out 6).trans rfl
            have hcz50_7 : wc.cell? ⟨gb187, 7, none⟩ = some (.int .i64 a0_7) := (blk_cell BK187.out 7).trans rfl
            have hcz50_8 : wc.cell? ⟨gb187, 8, none⟩ = some (.string a0_8) := (blk_cell BK187.out 8).trans rfl
            have hfz50_0 := blk_frozen BK187.out 0
            have hfz50_1 := blk_frozen BK187.out 1
            have hfz50_2 := blk_frozen BK187.out 2
            have hfz50_3 := blk_frozen BK187.out 3
            have hfz50_4 := blk_frozen BK187.out 4
            have hfz50_5 := blk_frozen BK187.out 5
            have hfz50_6 := blk_frozen BK187.out 6
            have hfz50_7 := blk_frozen BK187.out 7
            have hfz50_8 := blk_frozen BK187.out 8
            go_wp2
            go_ret
            exact ⟨by first | rfl | (simp [errW_none, errW_some] <;> rfl) | (simp [*, errW_none, errW_some] <;> rfl), by repeat (first | (with_reducible first | exact HB.out | apply below_alloc | apply pw_below_drewN | apply below_drew1 | refine below_set ?_ GE187.out) | exact HB.out)⟩
           ·rw [if_neg c49] at H
            have c49b0 : (a0_6 == 0) = false := beq_eq_false_iff_ne.mpr c49
            have c49b1 : (a0_6 != 0) = true := bne_iff_ne.mpr c49
            obtain rfl := Option.some.inj H
            have hcz51_0 : wc.cell? ⟨gb187, 0, none⟩ = some (.int .i64 a0_0) := (blk_cell BK187.out 0).trans rfl
            have hcz51_1 : wc.cell? ⟨gb187, 1, none⟩ = some (.int .i64 a0_1) := (blk_cell BK187.out 1).trans rfl
            have hcz51_2 : wc.cell? ⟨gb187, 2, none⟩ = some (.int .i64 a0_2) := (blk_cell BK187.out 2).trans rfl
            have hcz51_3 : wc.cell? ⟨gb187, 3, none⟩ = some (.int .i64 a0_3) := (blk_cell BK187.out 3).trans rfl
            have hcz51_4 : wc.cell? ⟨gb187, 4, none⟩ = some (.int .i64 a0_4) := (blk_cell BK187.out 4).trans rfl
            have hcz51_5 : wc.cell? ⟨gb187, 5, none⟩ = some (.string a0_5) := (blk_cell BK187.out 5).trans rfl
            have hcz51_6 : wc.cell? ⟨gb187, 6, none⟩ = some (.int .i64 a0_6) := (blk_cell BK187.out 6).trans rfl
            have hcz51_7 : wc.cell? ⟨gb187, 7, none⟩ = some (.int .i64 a0_7) := (blk_cell BK187.out 7).trans rfl
            have hcz51_8 : wc.cell? ⟨gb187, 8, none⟩ = some (.string a0_8) := (blk_cell BK187.out 8).trans rfl
            have hfz51_0 := blk_frozen BK187.out 0
            have hfz51_1 := blk_frozen BK187.out 1
            have hfz51_2 := blk_frozen BK187.out 2
            have hfz51_3 := blk_frozen BK187.out 3
            have hfz51_4 := blk_frozen BK187.out 4
            have hfz51_5 := blk_frozen BK187.out 5
            have hfz51_6 := blk_frozen BK187.out 6
            have hfz51_7 := blk_frozen BK187.out 7
            have hfz51_8 := blk_frozen BK187.out 8
            go_wp2
            go_ret
            exact ⟨by first | rfl | (simp [errW_none, errW_some] <;> rfl) | (simp [*, errW_none, errW_some] <;> rfl), by repeat (first | (with_reducible first | exact HB.out | apply below_alloc | apply pw_below_drewN | apply below_drew1 | refine below_set ?_ GE187.out) | exact HB.out)⟩
         ·rw [if_neg c46] at H
          have c46b0 : (a0_0 == 6) = false := beq_eq_false_iff_ne.mpr c46
          have c46b1 : (a0_0 != 6) = true := bne_iff_ne.mpr c46
          by_cases c52 : a0_4 = 0
          ·rw [if_pos c52] at H
           have c52b0 : (a0_4 == 0) = true := beq_iff_eq.mpr c52
           have c52b1 : (a0_4 != 0) = false := bne_eq_false_iff_eq.mpr c52
           clear c52
           by_cases c53 : a0_0 = 9
           ·rw [if_pos c53] at H
            have c53b0 : (a0_0 == 9) = true := beq_iff_eq.mpr c53
            have c53b1 : (a0_0 != 9) = false := bne_eq_false_iff_eq.mpr c53
            clear c53
            by_cases c54 : a0_0 ≥ 9
            ·rw [if_pos c54] at H
             have c54b0 : decide (9 ≤ a0_0) = true := decide_eq_true c54
             clear c54
             obtain rfl := Option.some.inj H
             have hcz55_0 : wc.cell? ⟨gb187, 0, none⟩ = some (.int .i64 a0_0) := (blk_cell BK187.out 0).trans rfl
             have hcz55_1 : wc.cell? ⟨gb187, 1, none⟩ = some (.int .i64 a0_1) := (blk_cell BK187.out 1).trans rfl
             have hcz55_2 : wc.cell? ⟨gb187, 2, none⟩ = some (.int .i64 a0_2) := (blk_cell BK187.out 2).trans rfl
             have hcz55_3 : wc.cell? ⟨gb187, 3, none⟩ = some (.int .i64 a0_3) := (blk_cell BK187.out 3).trans rfl
             have hcz55_4 : wc.cell? ⟨gb187, 4, none⟩ = some (.int .i64 a0_4) := (blk_cell BK187.out 4).trans rfl
             have hcz55_5 : wc.cell? ⟨gb187, 5, none⟩ = some (.string a0_5) := (blk_cell BK187.out 5).trans rfl
             have hcz55_6 : wc.cell? ⟨gb187, 6, none⟩ = some (.int .i64 a0_6) := (blk_cell BK187.out 6).trans rfl
             have hcz55_7 : wc.cell? ⟨gb187, 7, none⟩ = some (.int .i64 a0_7) := (blk_cell BK187.out 7).trans rfl
             have hcz55_8 : wc.cell? ⟨gb187, 8, none⟩ = some (.string a0_8) := (blk_cell BK187.out 8).trans rfl
             have hfz55_0 := blk_frozen BK187.out 0
             have hfz55_1 := blk_frozen BK187.out 1
             have hfz55_2 := blk_frozen BK187.out 2
             have hfz55_3 := blk_frozen BK187.out 3
             have hfz55_4 := blk_frozen BK187.out 4
             have hfz55_5 := blk_frozen BK187.out 5
             have hfz55_6 := blk_frozen BK187.out 6
             have hfz55_7 := blk_frozen BK187.out 7
             have hfz55_8 := blk_frozen BK187.out 8
             go_wp2
             go_ret
             exact ⟨by first | rfl | (simp [errW_none, errW_some] <;> rfl) | (simp [*, errW_none, errW_some] <;> rfl), by repeat (first | (with_reducible first | exact HB.out | apply below_alloc | apply pw_below_drewN | apply below_drew1 | refine below_set ?_ GE187.out) | exact HB.out)⟩
            ·rw [if_neg c54] at H
             have c54b0 : decide (9 ≤ a0_0) = false := decide_eq_false c54
             clear c54
             by_cases c56 : a0_6 = 0
             ·rw [if_pos c56] at H
              have c56b0 : (a0_6 == 0) = true := beq_iff_eq.mpr c56
              have c56b1 : (a0_6 != 0) = false := bne_eq_false_iff_eq.mpr c56
              clear c56
              obtain rfl := Option.some.inj H
              have hcz57_0 : wc.cell? ⟨gb187, 0, none⟩ = some (.int .i64 a0_0) := (blk_cell BK187.out 0).trans rfl
              have hcz57_1 : wc.cell? ⟨gb187, 1, none⟩ = some (.int .i64 a0_1) := (blk_cell BK187.out 1).trans rfl
              have hcz57_2 : wc.cell? ⟨gb187, 2, none⟩ = some (.int .i64 a0_2) := (blk_cell BK187.out 2).trans rfl
              have hcz57_3 : wc.cell? ⟨gb187, 3, none⟩ = some (.int .i64 a0_3) := (blk_cell BK187.out 3).trans rfl
              have hcz57_4 : wc.cell? ⟨gb187, 4, none⟩ = some (.int .i64 a0_4) := (blk_cell BK187.out 4).trans rfl
              have hcz57_5 : wc.cell? ⟨gb187, 5, none⟩ = some (.string a0_5) := (blk_cell BK187.out 5).trans rfl
              have hcz57_6 : wc.cell? ⟨gb187, 6, none⟩ = some (.int .i64 a0_6) := (blk_cell BK187.out 6).trans rfl
              have hcz57_7 : wc.cell? ⟨gb187, 7, none⟩ = some (.int .i64 a0_7) := (blk_cell BK187.out 7).trans rfl
              have hcz57_8 : wc.cell? ⟨gb187, 8, none⟩ = some (.string a0_8) := (blk_cell BK187.out 8).trans rfl
              have hfz57_0 := blk_frozen BK187.out 0
              have hfz57_1 := blk_frozen BK187.out 1
              have hfz57_2 := blk_frozen BK187.out 2
              have hfz57_3 := blk_frozen BK187.out 3
              have hfz57_4 := blk_frozen BK187.out 4
              have hfz57_5 := blk_frozen BK187.out 5
              have hfz57_6 := blk_frozen BK187.out 6
              have hfz57_7 := blk_frozen BK187.out 7
              have hfz57_8 := blk_frozen BK187.out 8
              go_wp2
              go_ret
              exact ⟨by first | rfl | (simp [errW_none, errW_some] <;> rfl) | (simp [*, errW_none, errW_some] <;> rfl), by repeat (first | (with_reducible first | exact HB.out | apply below_alloc | apply pw_below_drewN | apply below_drew1 | refine below_set ?_ GE187.out) | exact HB.out)⟩
             ·rw [if_neg c56] at H
              have c56b0 : (a0_6 == 0) = false := beq_eq_false_iff_ne.mpr c56
              have c56b1 : (a0_6 != 0) = true := bne_iff_ne.mpr c56
              obtain rfl := Option.some.inj H
              have hcz58_0 : wc.cell? ⟨gb187, 0, none⟩ = some (.int .i64 a0_0) := (blk_cell BK187.out 0).trans rfl
              have hcz58_1 : wc.cell? ⟨gb187, 1, none⟩ = some (.int .i64 a0_1) := (blk_cell BK187.out 1).trans rfl
              have hcz58_2 : wc.cell? ⟨gb187, 2, none⟩ = some (.int .i64 a0_2) := (blk_cell BK187.out 2).trans rfl
              have hcz58_3 : wc.cell? ⟨gb187, 3, none⟩ = some (.int .i64 a0_3) := (blk_cell BK187.out 3).trans rfl
              have hcz58_4 : wc.cell? ⟨gb187, 4, none⟩ = some (.int .i64 a0_4) := (blk_cell BK187.out 4).trans rfl
              have hcz58_5 : wc.cell? ⟨gb187, 5, none⟩ = some (.string a0_5) := (blk_cell BK187.out 5).trans rfl
              have hcz58_6 : wc.cell? ⟨gb187, 6, none⟩ = some (.int .i64 a0_6) := (blk_cell BK187.out 6).trans rfl
              have hcz58_7 : wc.cell? ⟨gb187, 7, none⟩ = some (.int .i64 a0_7) := (blk_cell BK187.out 7).trans rfl
              have hcz58_8 : wc.cell? ⟨gb187, 8, none⟩ = some (.string a0_8) := (blk_cell BK187.out 8).trans rfl
              have hfz58_0 := blk_frozen BK187.out 0
              have hfz58_1 := blk_frozen BK187.out 1
              have hfz58_2 := blk_frozen BK187.out 2
              have hfz58_3 := blk_frozen BK187.out 3
              have hfz58_4 := blk_frozen BK187.out 4
              have hfz58_5 := blk_frozen BK187.out 5
              have hfz58_6 := blk_frozen BK187.out 6
              have hfz58_7 := blk_frozen BK187.out 7
              have hfz58_8 := blk_frozen BK187.out 8
              go_wp2
              go_ret
              exact ⟨by first | rfl | (simp [errW_none, errW_some] <;> rfl) | (simp [*, errW_none, errW_some] <;> rfl), by repeat (first | (with_reducible first | exact HB.out | apply below_alloc | apply pw_below_drewN | apply below_drew1 | refine below_set ?_ GE187.out) | exact HB.out)⟩
           ·rw [if_neg c53] at H
            have c53b0 : (a0_0 == 9) = false := beq_eq_false_iff_ne.mpr c53
            have c53b1 : (a0_0 != 9) = true := bne_iff_ne.mpr c53
            by_cases c59 : a0_3 = 0
            ·rw [if_pos c59] at H
             have c59b0 : (a0_3 == 0) = true := beq_iff_eq.mpr c59
             have c59b1 : (a0_3 != 0) = false := bne_eq_false_iff_eq.mpr c59
             clear c59
             by_cases c60 : a0_0 ≥ 9
             ·rw [if_pos c60] at H
              have c60b0 : decide (9 ≤ a0_0) = true := decide_eq_true c60
              clear c60
              obtain rfl := Option.some.inj H
              have hcz61_0 : wc.cell? ⟨gb187, 0, none⟩ = some (.int .i64 a0_0) := (blk_cell BK187.out 0).trans rfl
              have hcz61_1 : wc.cell? ⟨gb187, 1, none⟩ = some (.int .i64 a0_1) := (blk_cell BK187.out 1).trans rfl
              have hcz61_2 : wc.cell? ⟨gb187, 2, none⟩ = some (.int .i64 a0_2) := (blk_cell BK187.out 2).trans rfl
              have hcz61_3 : wc.cell? ⟨gb187, 3, none⟩ = some (.int .i64 a0_3) := (blk_cell BK187.out 3).trans rfl
              have hcz61_4 : wc.cell? ⟨gb187, 4, none⟩ = some (.int .i64 a0_4) := (blk_cell BK187.out 4).trans rfl
              have hcz61_5 : wc.cell? ⟨gb187, 5, none⟩ = some (.string a0_5) := (blk_cell BK187.out 5).trans rfl
              have hcz61_6 : wc.cell? ⟨gb187, 6, none⟩ = some (.int .i64 a0_6) := (blk_cell BK187.out 6).trans rfl
              have hcz61_7 : wc.cell? ⟨gb187, 7, none⟩ = some (.int .i64 a0_7) := (blk_cell BK187.out 7).trans rfl
              have hcz61_8 : wc.cell? ⟨gb187, 8, none⟩ = some (.string a0_8) := (blk_cell BK187.out 8).trans rfl
              have hfz61_0 := blk_frozen BK187.out 0
              have hfz61_1 := blk_frozen BK187.out 1
              have hfz61_2 := blk_frozen BK187.out 2
              have hfz61_3 := blk_frozen BK187.out 3
              have hfz61_4 := blk_frozen BK187.out 4
              have hfz61_5 := blk_frozen BK187.out 5
              have hfz61_6 := blk_frozen BK187.out 6
              have hfz61_7 := blk_frozen BK187.out 7
              have hfz61_8 := blk_frozen BK187.out 8
              go_wp2
              go_ret
              exact ⟨by first | rfl | (simp [errW_none, errW_some] <;> rfl) | (simp [*, errW_none, errW_some] <;> rfl), by repeat (first | (with_reducible first | exact HB.out | apply below_alloc | apply pw_below_drewN | apply below_drew1 | refine below_set ?_ GE187.out) | exact HB.out)⟩
             ·rw [if_neg c60] at H
              have c60b0 : decide (9 ≤ a0_0) = false := decide_eq_false c60
              clear c60
              by_cases c62 : a0_6 = 0
              ·rw [if_pos c62] at H
               have c62b0 : (a0_6 == 0) = true := beq_iff_eq.mpr c62
               have c62b1 : (a0_6 != 0) = false := bne_eq_false_iff_eq.mpr c62
               clear c62
               obtain rfl := Option.some.inj H
               have hcz63_0 : wc.cell? ⟨gb187, 0, none⟩ = some (.int .i64 a0_0) := (blk_cell BK187.out 0).trans rfl
               have hcz63_1 : wc.cell? ⟨gb187, 1, none⟩ = some (.int .i64 a0_1) := (blk_cell BK187.out 1).trans rfl
               have hcz63_2 : wc.cell? ⟨gb187, 2, none⟩ = some (.int .i64 a0_2) := (blk_cell BK187.out 2).trans rfl
               have hcz63_3 : wc.cell? ⟨gb187, 3, none⟩ = some (.int .i64 a0_3) := (blk_cell BK187.out 3).trans rfl
               have hcz63_4 : wc.cell? ⟨gb187, 4, none⟩ = some (.int .i64 a0_4) := (blk_cell BK187.out 4).trans rfl
               have hcz63_5 : wc.cell? ⟨gb187, 5, none⟩ = some (.string a0_5) := (blk_cell BK187.out 5).trans rfl
               have hcz63_6 : wc.cell? ⟨gb187, 6, none⟩ = some (.int .i64 a0_6) := (blk_cell BK187.out 6).trans rfl
               have hcz63_7 : wc.cell? ⟨gb187, 7, none⟩ = some (.int .i64 a0_7) := (blk_cell BK187.out 7).trans rfl
               have hcz63_8 : wc.cell? ⟨gb187, 8, none⟩ = some (.string a0_8) := (blk_cell BK187.out 8).trans rfl
               have hfz63_0 := blk_frozen BK187.out 0
               have hfz63_1 := blk_frozen BK187.out 1
               have hfz63_2 := blk_frozen BK187.out 2
               have hfz63_3 := blk_frozen BK187.out 3
               have hfz63_4 := blk_frozen BK187.out 4
               have hfz63_5 := blk_frozen BK187.out 5
               have hfz63_6 := blk_frozen BK187.out 6
               have hfz63_7 := blk_frozen BK187.out 7
               have hfz63_8 := blk_frozen BK187.out 8
               go_wp2
               go_ret
               exact ⟨by first | rfl | (simp [errW_none, errW_some] <;> rfl) | (simp [*, errW_none, errW_some] <;> rfl), by repeat (first | (with_reducible first | exact HB.out | apply below_alloc | apply pw_below_drewN | apply below_drew1 | refine below_set ?_ GE187.out) | exact HB.out)⟩
              ·rw [if_neg c62] at H
               have c62b0 : (a0_6 == 0) = false := beq_eq_false_iff_ne.mpr c62
               have c62b1 : (a0_6 != 0) = true := bne_iff_ne.mpr c62
               obtain rfl := Option.some.inj H
               have hcz64_0 : wc.cell? ⟨gb187, 0, none⟩ = some (.int .i64 a0_0) := (blk_cell BK187.out 0).trans rfl
               have hcz64_1 : wc.cell? ⟨gb187, 1, none⟩ = some (.int .i64 a0_1) := (blk_cell BK187.out 1).trans rfl
               have hcz64_2 : wc.cell? ⟨gb187, 2, none⟩ = some (.int .i64 a0_2) := (blk_cell BK187.out 2).trans rfl
               have hcz64_3 : wc.cell? ⟨gb187, 3, none⟩ = some (.int .i64 a0_3) := (blk_cell BK187.out 3).trans rfl
               have hcz64_4 : wc.cell? ⟨gb187, 4, none⟩ = some (.int .i64 a0_4) := (blk_cell BK187.out 4).trans rfl
               have hcz64_5 : wc.cell? ⟨gb187, 5, none⟩ = some (.string a0_5) := (blk_cell BK187.out 5).trans rfl
               have hcz64_6 : wc.cell? ⟨gb187, 6, none⟩ = some (.int .i64 a0_6) := (blk_cell BK187.out 6).trans rfl
               have hcz64_7 : wc.cell? ⟨gb187, 7, none⟩ = some (.int .i64 a0_7) := (blk_cell BK187.out 7).trans rfl
               have hcz64_8 : wc.cell? ⟨gb187, 8, none⟩ = some (.string a0_8) := (blk_cell BK187.out 8).trans rfl
               have hfz64_0 := blk_frozen BK187.out 0
               have hfz64_1 := blk_frozen BK187.out 1
               have hfz64_2 := blk_frozen BK187.out 2
               have hfz64_3 := blk_frozen BK187.out 3
               have hfz64_4 := blk_frozen BK187.out 4
               have hfz64_5 := blk_frozen BK187.out 5
               have hfz64_6 := blk_frozen BK187.out 6
               have hfz64_7 := blk_frozen BK187.out 7
               have hfz64_8 := blk_frozen BK187.out 8
               go_wp2
               go_ret
               exact ⟨by first | rfl | (simp [errW_none, errW_some] <;> rfl) | (simp [*, errW_none, errW_some] <;> rfl), by repeat (first | (with_reducible first | exact HB.out | apply below_alloc | apply pw_below_drewN | apply below_drew1 | refine below_set ?_ GE187.out) | exact HB.out)⟩
            ·rw [if_neg c59] at H
             have c59b0 : (a0_3 == 0) = false := beq_eq_false_iff_ne.mpr c59
             have c59b1 : (a0_3 != 0) = true := bne_iff_ne.mpr c59
             obtain rfl := Option.some.inj H
             have hcz65_0 : wc.cell? ⟨gb187, 0, none⟩ = some (.int .i64 a0_0) := (blk_cell BK187.out 0).trans rfl
             have hcz65_1 : wc.cell? ⟨gb187, 1, none⟩ = some (.int .i64 a0_1) := (blk_cell BK187.out 1).trans rfl
             have hcz65_2 : wc.cell? ⟨gb187, 2, none⟩ = some (.int .i64 a0_2) := (blk_cell BK187.out 2).trans rfl
             have hcz65_3 : wc.cell? ⟨gb187, 3, none⟩ = some (.int .i64 a0_3) := (blk_cell BK187.out 3).trans rfl
             have hcz65_4 : wc.cell? ⟨gb187, 4, none⟩ = some (.int .i64 a0_4) := (blk_cell BK187.out 4).trans rfl
             have hcz65_5 : wc.cell? ⟨gb187, 5, none⟩ = some (.string a0_5) := (blk_cell BK187.out 5).trans rfl
             have hcz65_6 : wc.cell? ⟨gb187, 6, none⟩ = some (.int .i64 a0_6) := (blk_cell BK187.out 6).trans rfl
             have hcz65_7 : wc.cell? ⟨gb187, 7, none⟩ = some (.int .i64 a0_7) := (blk_cell BK187.out 7).trans rfl
             have hcz65_8 : wc.cell? ⟨gb187, 8, none⟩ = some (.string a0_8) := (blk_cell BK187.out 8).trans rfl
             have hfz65_0 := blk_frozen BK187.out 0
             have hfz65_1 := blk_frozen BK187.out 1
             have hfz65_2 := blk_frozen BK187.out 2
             have hfz65_3 := blk_frozen BK187.out 3
             have hfz65_4 := blk_frozen BK187.out 4
             have hfz65_5 := blk_frozen BK187.out 5
             have hfz65_6 := blk_frozen BK187.out 6
             have hfz65_7 := blk_frozen BK187.out 7
             have hfz65_8 := blk_frozen BK187.out 8
             go_wp2
             go_ret
             exact ⟨by first | rfl | (simp [errW_none, errW_some] <;> rfl) | (simp [*, errW_none, errW_some] <;> rfl), by repeat (first | (with_reducible first | exact HB.out | apply below_alloc | apply pw_below_drewN | apply below_drew1 | refine below_set ?_ GE187.out) | exact HB.out)⟩
          ·rw [if_neg c52] at H
           have c52b0 : (a0_4 == 0) = false := beq_eq_false_iff_ne.mpr c52
           have c52b1 : (a0_4 != 0) = true := bne_iff_ne.mpr c52
           obtain rfl := Option.some.inj H
           have hcz66_0 : wc.cell? ⟨gb187, 0, none⟩ = some (.int .i64 a0_0) := (blk_cell BK187.out 0).trans rfl
           have hcz66_1 : wc.cell? ⟨gb187, 1, none⟩ = some (.int .i64 a0_1) := (blk_cell BK187.out 1).trans rfl
           have hcz66_2 : wc.cell? ⟨gb187, 2, none⟩ = some (.int .i64 a0_2) := (blk_cell BK187.out 2).trans rfl
           have hcz66_3 : wc.cell? ⟨gb187, 3, none⟩ = some (.int .i64 a0_3) := (blk_cell BK187.out 3).trans rfl
           have hcz66_4 : wc.cell? ⟨gb187, 4, none⟩ = some (.int .i64 a0_4) := (blk_cell BK187.out 4).trans rfl
           have hcz66_5 : wc.cell? ⟨gb187, 5, none⟩ = some (.string a0_5) := (blk_cell BK187.out 5).trans rfl
           have hcz66_6 : wc.cell? ⟨gb187, 6, none⟩ = some (.int .i64 a0_6) := (blk_cell BK187.out 6).trans rfl
           have hcz66_7 : wc.cell? ⟨gb187, 7, none⟩ = some (.int .i64 a0_7) := (blk_cell BK187.out 7).trans rfl
           have hcz66_8 : wc.cell? ⟨gb187, 8, none⟩ = some (.string a0_8) := (blk_cell BK187.out 8).trans rfl
           have hfz66_0 := blk_frozen BK187.out 0
           have hfz66_1 := blk_frozen BK187.out 1
           have hfz66_2 := blk_frozen BK187.out 2
           have hfz66_3 := blk_frozen BK187.out 3
           have hfz66_4 := blk_frozen BK187.out 4
           have hfz66_5 := blk_frozen BK187.out 5
           have hfz66_6 := blk_frozen BK187.out 6
           have hfz66_7 := blk_frozen BK187.out 7
           have hfz66_8 := blk_frozen BK187.out 8
           go_wp2
           go_ret
           exact ⟨by first | rfl | (simp [errW_none, errW_some] <;> rfl) | (simp [*, errW_none, errW_some] <;> rfl), by repeat (first | (with_reducible first | exact HB.out | apply below_alloc | apply pw_below_drewN | apply below_drew1 | refine below_set ?_ GE187.out) | exact HB.out)⟩
        ·rw [if_neg c45] at H
         have c45b0 : (a0_2 == 0) = false := beq_eq_false_iff_ne.mpr c45
         have c45b1 : (a0_2 != 0) = true := bne_iff_ne.mpr c45
         obtain rfl := Option.some.inj H
         have hcz67_0 : wc.cell? ⟨gb187, 0, none⟩ = some (.int .i64 a0_0) := (blk_cell BK187.out 0).trans rfl
         have hcz67_1 : wc.cell? ⟨gb187, 1, none⟩ = some (.int .i64 a0_1) := (blk_cell BK187.out 1).trans rfl
         have hcz67_2 : wc.cell? ⟨gb187, 2, none⟩ = some (.int .i64 a0_2) := (blk_cell BK187.out 2).trans rfl
         have hcz67_3 : wc.cell? ⟨gb187, 3, none⟩ = some (.int .i64 a0_3) := (blk_cell BK187.out 3).trans rfl
         have hcz67_4 : wc.cell? ⟨gb187, 4, none⟩ = some (.int .i64 a0_4) := (blk_cell BK187.out 4).trans rfl
         have hcz67_5 : wc.cell? ⟨gb187, 5, none⟩ = some (.string a0_5) := (blk_cell BK187.out 5).trans rfl
         have hcz67_6 : wc.cell? ⟨gb187, 6, none⟩ = some (.int .i64 a0_6) := (blk_cell BK187.out 6).trans rfl
         have hcz67_7 : wc.cell? ⟨gb187, 7, none⟩ = some (.int .i64 a0_7) := (blk_cell BK187.out 7).trans rfl
         have hcz67_8 : wc.cell? ⟨gb187, 8, none⟩ = some (.string a0_8) := (blk_cell BK187.out 8).trans rfl
         have hfz67_0 := blk_frozen BK187.out 0
         have hfz67_1 := blk_frozen BK187.out 1
         have hfz67_2 := blk_frozen BK187.out 2
         have hfz67_3 := blk_frozen BK187.out 3
         have hfz67_4 := blk_frozen BK187.out 4
         have hfz67_5 := blk_frozen BK187.out 5
         have hfz67_6 := blk_frozen BK187.out 6
         have hfz67_7 := blk_frozen BK187.out 7
         have hfz67_8 := blk_frozen BK187.out 8
         go_wp2
         go_ret
         exact ⟨by first | rfl | (simp [errW_none, errW_some] <;> rfl) | (simp [*, errW_none, errW_some] <;> rfl), by repeat (first | (with_reducible first | exact HB.out | apply below_alloc | apply pw_below_drewN | apply below_drew1 | refine below_set ?_ GE187.out) | exact HB.out)⟩
       ·rw [if_neg c44] at H
        have c44b0 : decide (a0_0 < 5) = false := decide_eq_false c44
        clear c44
        by_cases c68 : a0_0 > 8
        ·rw [if_pos c68] at H
         have c68b0 : decide (8 < a0_0) = true := decide_eq_true c68
         clear c68
         by_cases c69 : a0_2 = 0
         ·rw [if_pos c69] at H
          have c69b0 : (a0_2 == 0) = true := beq_iff_eq.mpr c69
          have c69b1 : (a0_2 != 0) = false := bne_eq_false_iff_eq.mpr c69
          clear c69
          by_cases c70 : a0_0 = 6
          ·rw [if_pos c70] at H
           have c70b0 : (a0_0 == 6) = true := beq_iff_eq.mpr c70
           have c70b1 : (a0_0 != 6) = false := bne_eq_false_iff_eq.mpr c70
           clear c70
           by_cases c71 : a0_0 ≥ 9
           ·rw [if_pos c71] at H
            have c71b0 : decide (9 ≤ a0_0) = true := decide_eq_true c71
            clear c71
            obtain rfl := Option.some.inj H
            have hcz72_0 : wc.cell? ⟨gb187, 0, none⟩ = some (.int .i64 a0_0) := (blk_cell BK187.out 0).trans rfl
            have hcz72_1 : wc.cell? ⟨gb187, 1, none⟩ = some (.int .i64 a0_1) := (blk_cell BK187.out 1).trans rfl
            have hcz72_2 : wc.cell? ⟨gb187, 2, none⟩ = some (.int .i64 a0_2) := (blk_cell BK187.out 2).trans rfl
            have hcz72_3 : wc.cell? ⟨gb187, 3, none⟩ = some (.int .i64 a0_3) := (blk_cell BK187.out 3).trans rfl
            have hcz72_4 : wc.cell? ⟨gb187, 4, none⟩ = some (.int .i64 a0_4) := (blk_cell BK187.out 4).trans rfl
            have hcz72_5 : wc.cell? ⟨gb187, 5, none⟩ = some (.string a0_5) := (blk_cell BK187.out 5).trans rfl
            have hcz72_6 : wc.cell? ⟨gb187, 6, none⟩ = some (.int .i64 a0_6) := (blk_cell BK187.out 6).trans rfl
            have hcz72_7 : wc.cell? ⟨gb187, 7, none⟩ = some (.int .i64 a0_7) := (blk_cell BK187.out 7).trans rfl
            have hcz72_8 : wc.cell? ⟨gb187, 8, none⟩ = some (.string a0_8) := (blk_cell BK187.out 8).trans rfl
            have hfz72_0 := blk_frozen BK187.out 0
            have hfz72_1 := blk_frozen BK187.out 1
            have hfz72_2 := blk_frozen BK187.out 2
            have hfz72_3 := blk_frozen BK187.out 3
            have hfz72_4 := blk_frozen BK187.out 4
            have hfz72_5 := blk_frozen BK187.out 5
            have hfz72_6 := blk_frozen BK187.out 6
            have hfz72_7 := blk_frozen BK187.out 7
            have hfz72_8 := blk_frozen BK187.out 8
            go_wp2
            go_ret
            exact ⟨by first | rfl | (simp [errW_none, errW_some] <;> rfl) | (simp [*, errW_none, errW_some] <;> rfl), by repeat (first | (with_reducible first | exact HB.out | apply below_alloc | apply pw_below_drewN | apply below_drew1 | refine below_set ?_ GE187.out) | exact HB.out)⟩
           ·rw [if_neg c71] at H
            have c71b0 : decide (9 ≤ a0_0) = false := decide_eq_false c71
            clear c71
            by_cases c73 : a0_6 = 0
            ·rw [if_pos c73] at H
             have c73b0 : (a0_6 == 0) = true := beq_iff_eq.mpr c73
             have c73b1 : (a0_6 != 0) = false := bne_eq_false_iff_eq.mpr c73
             clear c73
             obtain rfl := Option.some.inj H
             have hcz74_0 : wc.cell? ⟨gb187, 0, none⟩ = some (.int .i64 a0_0) := (blk_cell BK187.out 0).trans rfl
             have hcz74_1 : wc.cell? ⟨gb187, 1, none⟩ = some (.int .i64 a0_1) := (blk_cell BK187.out 1).trans rfl
             have hcz74_2 : wc.cell? ⟨gb187, 2, none⟩ = some (.int .i64 a0_2) := (blk_cell BK187.out 2).trans rfl
             have hcz74_3 : wc.cell? ⟨gb187, 3, none⟩ = some (.int .i64 a0_3) := (blk_cell BK187.out 3).trans rfl
             have hcz74_4 : wc.cell? ⟨gb187, 4, none⟩ = some (.int .i64 a0_4) := (blk_cell BK187.out 4).trans rfl
             have hcz74_5 : wc.cell? ⟨gb187, 5, none⟩ = some (.string a0_5) := (blk_cell BK187.out 5).trans rfl
             have hcz74_6 : wc.cell? ⟨gb187, 6, none⟩ = some (.int .i64 a0_6) := (blk_cell BK187.out 6).trans rfl
             have hcz74_7 : wc.cell? ⟨gb187, 7, none⟩ = some (.int .i64 a0_7) := (blk_cell BK187.out 7).trans rfl
             have hcz74_8 : wc.cell? ⟨gb187, 8, none⟩ = some (.string a0_8) := (blk_cell BK187.out 8).trans rfl
             have hfz74_0 := blk_frozen BK187.out 0
             have hfz74_1 := blk_frozen BK187.out 1
             have hfz74_2 := blk_frozen BK187.out 2
             have hfz74_3 := blk_frozen BK187.out 3
             have hfz74_4 := blk_frozen BK187.out 4
             have hfz74_5 := blk_frozen BK187.out 5
             have hfz74_6 := blk_frozen BK187.out 6
             have hfz74_7 := blk_frozen BK187.out 7
             have hfz74_8 := blk_frozen BK187.out 8
             go_wp2
             go_ret
             exact ⟨by first | rfl | (simp [errW_none, errW_some] <;> rfl) | (simp [*, errW_none, errW_some] <;> rfl), by repeat (first | (with_reducible first | exact HB.out | apply below_alloc | apply pw_below_drewN | apply below_drew1 | refine below_set ?_ GE187.out) | exact HB.out)⟩
            ·rw [if_neg c73] at H
             have c73b0 : (a0_6 == 0) = false := beq_eq_false_iff_ne.mpr c73
             have c73b1 : (a0_6 != 0) = true := bne_iff_ne.mpr c73
             obtain rfl := Option.some.inj H
             have hcz75_0 : wc.cell? ⟨gb187, 0, none⟩ = some (.int .i64 a0_0) := (blk_cell BK187.out 0).trans rfl
             have hcz75_1 : wc.cell? ⟨gb187, 1, none⟩ = some (.int .i64 a0_1) := (blk_cell BK187.out 1).trans rfl
             have hcz75_2 : wc.cell? ⟨gb187, 2, none⟩ = some (.int .i64 a0_2) := (blk_cell BK187.out 2).trans rfl
             have hcz75_3 : wc.cell? ⟨gb187, 3, none⟩ = some (.int .i64 a0_3) := (blk_cell BK187.out 3).trans rfl
             have hcz75_4 : wc.cell? ⟨gb187, 4, none⟩ = some (.int .i64 a0_4) := (blk_cell BK187.out 4).trans rfl
             have hcz75_5 : wc.cell? ⟨gb187, 5, none⟩ = some (.string a0_5) := (blk_cell BK187.out 5).trans rfl
             have hcz75_6 : wc.cell? ⟨gb187, 6, none⟩ = some (.int .i64 a0_6) := (blk_cell BK187.out 6).trans rfl
             have hcz75_7 : wc.cell? ⟨gb187, 7, none⟩ = some (.int .i64 a0_7) := (blk_cell BK187.out 7).trans rfl
             have hcz75_8 : wc.cell? ⟨gb187, 8, none⟩ = some (.string a0_8) := (blk_cell BK187.out 8).trans rfl
             have hfz75_0 := blk_frozen BK187.out 0
             have hfz75_1 := blk_frozen BK187.out 1
             have hfz75_2 := blk_frozen BK187.out 2
             have hfz75_3 := blk_frozen BK187.out 3
             have hfz75_4 := blk_frozen BK187.out 4
             have hfz75_5 := blk_frozen BK187.out 5
             have hfz75_6 := blk_frozen BK187.out 6
             have hfz75_7 := blk_frozen BK187.out 7
             have hfz75_8 := blk_frozen BK187.out 8
             go_wp2
             go_ret
             exact ⟨by first | rfl | (simp [errW_none, errW_some] <;> rfl) | (simp [*, errW_none, errW_some] <;> rfl), by repeat (first | (with_reducible first | exact HB.out | apply below_alloc | apply pw_below_drewN | apply below_drew1 | refine below_set ?_ GE187.out) | exact HB.out)⟩
          ·rw [if_neg c70] at H
           have c70b0 : (a0_0 == 6) = false := beq_eq_false_iff_ne.mpr c70
           have c70b1 : (a0_0 != 6) = true := bne_iff_ne.mpr c70
           by_cases c76 : a0_4 = 0
           ·rw [if_pos c76] at H
            have c76b0 : (a0_4 == 0) = true := beq_iff_eq.mpr c76
            have c76b1 : (a0_4 != 0) = false := bne_eq_false_iff_eq.mpr c76
            clear c76
            by_cases c77 : a0_0 = 9
            ·rw [if_pos c77] at H
             have c77b0 : (a0_0 == 9) = true := beq_iff_eq.mpr c77
             have c77b1 : (a0_0 != 9) = false := bne_eq_false_iff_eq.mpr c77
             clear c77
             by_cases c78 : a0_0 ≥ 9
             ·rw [if_pos c78] at H
              have c78b0 : decide (9 ≤ a0_0) = true := decide_eq_true c78
              clear c78
              obtain rfl := Option.some.inj H
              have hcz79_0 : wc.cell? ⟨gb187, 0, none⟩ = some (.int .i64 a0_0) := (blk_cell BK187.out 0).trans rfl
              have hcz79_1 : wc.cell? ⟨gb187, 1, none⟩ = some (.int .i64 a0_1) := (blk_cell BK187.out 1).trans rfl
              have hcz79_2 : wc.cell? ⟨gb187, 2, none⟩ = some (.int .i64 a0_2) := (blk_cell BK187.out 2).trans rfl
              have hcz79_3 : wc.cell? ⟨gb187, 3, none⟩ = some (.int .i64 a0_3) := (blk_cell BK187.out 3).trans rfl
              have hcz79_4 : wc.cell? ⟨gb187, 4, none⟩ = some (.int .i64 a0_4) := (blk_cell BK187.out 4).trans rfl
              have hcz79_5 : wc.cell? ⟨gb187, 5, none⟩ = some (.string a0_5) := (blk_cell BK187.out 5).trans rfl
              have hcz79_6 : wc.cell? ⟨gb187, 6, none⟩ = some (.int .i64 a0_6) := (blk_cell BK187.out 6).trans rfl
              have hcz79_7 : wc.cell? ⟨gb187, 7, none⟩ = some (.int .i64 a0_7) := (blk_cell BK187.out 7).trans rfl
              have hcz79_8 : wc.cell? ⟨gb187, 8, none⟩ = some (.string a0_8) := (blk_cell BK187.out 8).trans rfl
              have hfz79_0 := blk_frozen BK187.out 0
              have hfz79_1 := blk_frozen BK187.out 1
              have hfz79_2 := blk_frozen BK187.out 2
              have hfz79_3 := blk_frozen BK187.out 3
              have hfz79_4 := blk_frozen BK187.out 4
              have hfz79_5 := blk_frozen BK187.out 5
              have hfz79_6 := blk_frozen BK187.out 6
              have hfz79_7 := blk_frozen BK187.out 7
              have hfz79_8 := blk_frozen BK187.out 8
              go_wp2
              go_ret
              exact ⟨by first | rfl | (simp [errW_none, errW_some] <;> rfl) | (simp [*, errW_none, errW_some] <;> rfl), by repeat (first | (with_reducible first | exact HB.out | apply below_alloc | apply pw_below_drewN | apply below_drew1 | refine below_set ?_ GE187.out) | exact HB.out)⟩
             ·rw [if_neg c78] at H
              have c78b0 : decide (9 ≤ a0_0) = false := decide_eq_false c78
              clear c78
              by_cases c80 : a0_6 = 0
              ·rw [if_pos c80] at H
               have c80b0 : (a0_6 == 0) = true := beq_iff_eq.mpr c80
               have c80b1 : (a0_6 != 0) = false := bne_eq_false_iff_eq.mpr c80
               clear c80
               obtain rfl := Option.some.inj H
               have hcz81_0 : wc.cell? ⟨gb187, 0, none⟩ = some (.int .i64 a0_0) := (blk_cell BK187.out 0).trans rfl
               have hcz81_1 : wc.cell? ⟨gb187, 1, none⟩ = some (.int .i64 a0_1) := (blk_cell BK187.out 1).trans rfl
               have hcz81_2 : wc.cell? ⟨gb187, 2, none⟩ = some (.int .i64 a0_2) := (blk_cell BK187.out 2).trans rfl
               have hcz81_3 : wc.cell? ⟨gb187, 3, none⟩ = some (.int .i64 a0_3) := (blk_cell BK187.out 3).trans rfl
               have hcz81_4 : wc.cell? ⟨gb187, 4, none⟩ = some (.int .i64 a0_4) := (blk_cell BK187.out 4).trans rfl
               have hcz81_5 : wc.cell? ⟨gb187, 5, none⟩ = some (.string a0_5) := (blk_cell BK187.out 5).trans rfl
               have hcz81_6 : wc.cell? ⟨gb187, 6, none⟩ = some (.int .i64 a0_6) := (blk_cell BK187.out 6).trans rfl
               have hcz81_7 : wc.cell? ⟨gb187, 7, none⟩ = some (.int .i64 a0_7) := (blk_cell BK187.out 7).trans rfl
               have hcz81_8 : wc.cell? ⟨gb187, 8, none⟩ = some (.string a0_8) := (blk_cell BK187.out 8).trans rfl
               have hfz81_0 := blk_frozen BK187.out 0
               have hfz81_1 := blk_frozen BK187.out 1
               have hfz81_2 := blk_frozen BK187.out 2
               have hfz81_3 := blk_frozen BK187.out 3
               have hfz81_4 := blk_frozen BK187.out 4
               have hfz81_5 := blk_frozen BK187.out 5
               have hfz81_6 := blk_frozen BK187.out 6
               have hfz81_7 := blk_frozen BK187.out 7
               have hfz81_8 := blk_frozen BK187.out 8
               go_wp2
               go_ret
               exact ⟨by first | rfl | (simp [errW_none, errW_some] <;> rfl) | (simp [*, errW_none, errW_some] <;> rfl), by repeat (first | (with_reducible first | exact HB.out | apply below_alloc | apply pw_below_drewN | apply below_drew1 | refine below_set ?_ GE187.out) | exact HB.out)⟩
              ·rw [if_neg c80] at H
               have c80b0 : (a0_6 == 0) = false := beq_eq_false_iff_ne.mpr c80
               have c80b1 : (a0_6 != 0) = true := bne_iff_ne.mpr c80
               obtain rfl := Option.some.inj H
               have hcz82_0 : wc.cell? ⟨gb187, 0, none⟩ = some (.int .i64 a0_0) := (blk_cell BK187.out 0).trans rfl
               have hcz82_1 : wc.cell? ⟨gb187, 1, none⟩ = some (.int .i64 a0_1) := (blk_cell BK187.out 1).trans rfl
               have hcz82_2 : wc.cell? ⟨gb187, 2, none⟩ = some (.int .i64 a0_2) := (blk_cell BK187.out 2).trans rfl
               have hcz82_3 : wc.cell? ⟨gb187, 3, none⟩ = some (.int .i64 a0_3) := (blk_cell BK187.out 3).trans rfl
               have hcz82_4 : wc.cell? ⟨gb187, 4, none⟩ = some (.int .i64 a0_4) := (blk_cell BK187.out 4).trans rfl
               have hcz82_5 : wc.cell? ⟨gb187, 5, none⟩ = some (.string a0_5) := (blk_cell BK187.out 5).trans rfl
               have hcz82_6 : wc.cell? ⟨gb187, 6, none⟩ = some (.int .i64 a0_6) := (blk_cell BK187.out 6).trans rfl
               have hcz82_7 : wc.cell? ⟨gb187, 7, none⟩ = some (.int .i64 a0_7) := (blk_cell BK187.out 7).trans rfl
               have hcz82_8 : wc.cell? ⟨gb187, 8, none⟩ = some (.string a0_8) := (blk_cell BK187.out 8).trans rfl
               have hfz82_0 := blk_frozen BK187.out 0
               have hfz82_1 := blk_frozen BK187.out 1
               have hfz82_2 := blk_frozen BK187.out 2
               have hfz82_3 := blk_frozen BK187.out 3
               have hfz82_4 := blk_frozen BK187.out 4
               have hfz82_5 := blk_frozen BK187.out 5
               have hfz82_6 := blk_frozen BK187.out 6
               have hfz82_7 := blk_frozen BK187.out 7
               have hfz82_8 := blk_frozen BK187.out 8
               go_wp2
               go_ret
               exact ⟨by first | rfl | (simp [errW_none, errW_some] <;> rfl) | (simp [*, errW_none, errW_some] <;> rfl), by repeat (first | (with_reducible first | exact HB.out | apply below_alloc | apply pw_below_drewN | apply below_drew1 | refine below_set ?_ GE187.out) | exact HB.out)⟩
            ·rw [if_neg c77] at H
             have c77b0 : (a0_0 == 9) = false := beq_eq_false_iff_ne.mpr c77
             have c77b1 : (a0_0 != 9) = true := bne_iff_ne.mpr c77
             by_cases c83 : a0_3 = 0
             ·rw [if_pos c83] at H
              have c83b0 : (a0_3 == 0) = true := beq_iff_eq.mpr c83
              have c83b1 : (a0_3 != 0) = false := bne_eq_false_iff_eq.mpr c83
              clear c83
              by_cases c84 : a0_0 ≥ 9
              ·rw [if_pos c84] at H
               have c84b0 : decide (9 ≤ a0_0) = true := decide_eq_true c84
               clear c84
               obtain rfl := Option.some.inj H
               have hcz85_0 : wc.cell? ⟨gb187, 0, none⟩ = some (.int .i64 a0_0) := (blk_cell BK187.out 0).trans rfl
               have hcz85_1 : wc.cell? ⟨gb187, 1, none⟩ = some (.int .i64 a0_1) := (blk_cell BK187.out 1).trans rfl
               have hcz85_2 : wc.cell? ⟨gb187, 2, none⟩ = some (.int .i64 a0_2) := (blk_cell BK187.out 2).trans rfl
               have hcz85_3 : wc.cell? ⟨gb187, 3, none⟩ = some (.int .i64 a0_3) := (blk_cell BK187.out 3).trans rfl
               have hcz85_4 : wc.cell? ⟨gb187, 4, none⟩ = some (.int .i64 a0_4) := (blk_cell BK187.out 4).trans rfl
               have hcz85_5 : wc.cell? ⟨gb187, 5, none⟩ = some (.string a0_5) := (blk_cell BK187.out 5).trans rfl
               have hcz85_6 : wc.cell? ⟨gb187, 6, none⟩ = some (.int .i64 a0_6) := (blk_cell BK187.out 6).trans rfl
               have hcz85_7 : wc.cell? ⟨gb187, 7, none⟩ = some (.int .i64 a0_7) := (blk_cell BK187.out 7).trans rfl
               have hcz85_8 : wc.cell? ⟨gb187, 8, none⟩ = some (.string a0_8) := (blk_cell BK187.out 8).trans rfl
               have hfz85_0 := blk_frozen BK187.out 0
               have hfz85_1 := blk_frozen BK187.out 1
               have hfz85_2 := blk_frozen BK187.out 2
               have hfz85_3 := blk_frozen BK187.out 3
               have hfz85_4 := blk_frozen BK187.out 4
               have hfz85_5 := blk_frozen BK187.out 5
               have hfz85_6 := blk_frozen BK187.out 6
               have hfz85_7 := blk_frozen BK187.out 7
               have hfz85_8 := blk_frozen BK187.out 8
               go_wp2
               go_ret
               exact ⟨by first | rfl | (simp [errW_none, errW_some] <;> rfl) | (simp [*, errW_none, errW_some] <;> rfl), by repeat (first | (with_reducible first | exact HB.out | apply below_alloc | apply pw_below_drewN | apply below_drew1 | refine below_set ?_ GE187.out) | exact HB.out)⟩
              ·rw [if_neg c84] at H
               have c84b0 : decide (9 ≤ a0_0) = false := decide_eq_false c84
               clear c84
               by_cases c86 : a0_6 = 0
               ·rw [if_pos c86] at H
                have c86b0 : (a0_6 == 0) = true := beq_iff_eq.mpr c86
                have c86b1 : (a0_6 != 0) = false := bne_eq_false_iff_eq.mpr c86
                clear c86
                obtain rfl := Option.some.inj H
                have hcz87_0 : wc.cell? ⟨gb187, 0, none⟩ = some (.int .i64 a0_0) := (blk_cell BK187.out 0).trans rfl
                have hcz87_1 : wc.cell? ⟨gb187, 1, none⟩ = some (.int .i64 a0_1) := (blk_cell BK187.out 1).trans rfl
                have hcz87_2 : wc.cell? ⟨gb187, 2, none⟩ = some (.int .i64 a0_2) := (blk_cell BK187.out 2).trans rfl
                have hcz87_3 : wc.cell? ⟨gb187, 3, none⟩ = some (.int .i64 a0_3) := (blk_cell BK187.out 3).trans rfl
                have hcz87_4 : wc.cell? ⟨gb187, 4, none⟩ = some (.int .i64 a0_4) := (blk_cell BK187.out 4).trans rfl
                have hcz87_5 : wc.cell? ⟨gb187, 5, none⟩ = some (.string a0_5) := (blk_cell BK187.out 5).trans rfl
                have hcz87_6 : wc.cell? ⟨gb187, 6, none⟩ = some (.int .i64 a0_6) := (blk_cell BK187.out 6).trans rfl
                have hcz87_7 : wc.cell? ⟨gb187, 7, none⟩ = some (.int .i64 a0_7) := (blk_cell BK187.out 7).trans rfl
                have hcz87_8 : wc.cell? ⟨gb187, 8, none⟩ = some (.string a0_8) := (blk_cell BK187.out 8).trans rfl
                have hfz87_0 := blk_frozen BK187.out 0
                have hfz87_1 := blk_frozen BK187.out 1
                have hfz87_2 := blk_frozen BK187.out 2
                have hfz87_3 := blk_frozen BK187.out 3
                have hfz87_4 := blk_frozen BK187.out 4
                have hfz87_5 := blk_frozen BK187.out 5
                have hfz87_6 := blk_frozen BK187.out 6
                have hfz87_7 := blk_frozen BK187.out 7
                have hfz87_8 := blk_frozen BK187.out 8
                go_wp2
                go_ret
                exact ⟨by first | rfl | (simp [errW_none, errW_some] <;> rfl) | (simp [*, errW_none, errW_some] <;> rfl), by repeat (first | (with_reducible first | exact HB.out | apply below_alloc | apply pw_below_drewN | apply below_drew1 | refine below_set ?_ GE187.out) | exact HB.out)⟩
               ·rw [if_neg c86] at H
                have c86b0 : (a0_6 == 0) = false := beq_eq_false_iff_ne.mpr c86
                have c86b1 : (a0_6 != 0) = true := bne_iff_ne.mpr c86
                obtain rfl := Option.some.inj H
                have hcz88_0 : wc.cell? ⟨gb187, 0, none⟩ = some (.int .i64 a0_0) := (blk_cell BK187.out 0).trans rfl
                have hcz88_1 : wc.cell? ⟨gb187, 1, none⟩ = some (.int .i64 a0_1) := (blk_cell BK187.out 1).trans rfl
                have hcz88_2 : wc.cell? ⟨gb187, 2, none⟩ = some (.int .i64 a0_2) := (blk_cell BK187.out 2).trans rfl
                have hcz88_3 : wc.cell? ⟨gb187, 3, none⟩ = some (.int .i64 a0_3) := (blk_cell BK187.out 3).trans rfl
                have hcz88_4 : wc.cell? ⟨gb187, 4, none⟩ = some (.int .i64 a0_4) := (blk_cell BK187.out 4).trans rfl
                have hcz88_5 : wc.cell? ⟨gb187, 5, none⟩ = some (.string a0_5) := (blk_cell BK187.out 5).trans rfl
                have hcz88_6 : wc.cell? ⟨gb187, 6, none⟩ = some (.int .i64 a0_6) := (blk_cell BK187.out 6).trans rfl
                have hcz88_7 : wc.cell? ⟨gb187, 7, none⟩ = some (.int .i64 a0_7) := (blk_cell BK187.out 7).trans rfl
                have hcz88_8 : wc.cell? ⟨gb187, 8, none⟩ = some (.string a0_8) := (blk_cell BK187.out 8).trans rfl
                have hfz88_0 := blk_frozen BK187.out 0
                have hfz88_1 := blk_frozen BK187.out 1
                have hfz88_2 := blk_frozen BK187.out 2
                have hfz88_3 := blk_frozen BK187.out 3
                have hfz88_4 := blk_frozen BK187.out 4
                have hfz88_5 := blk_frozen BK187.out 5
                have hfz88_6 := blk_frozen BK187.out 6
                have hfz88_7 := blk_frozen BK187.out 7
                have hfz88_8 := blk_frozen BK187.out 8
                go_wp2
                go_ret
                exact ⟨by first | rfl | (simp [errW_none, errW_some] <;> rfl) | (simp [*, errW_none, errW_some] <;> rfl), by repeat (first | (with_reducible first | exact HB.out | apply below_alloc | apply pw_below_drewN | apply below_drew1 | refine below_set ?_ GE187.out) | exact HB.out)⟩
             ·rw [if_neg c83] at H
              have c83b0 : (a0_3 == 0) = false := beq_eq_false_iff_ne.mpr c83
              have c83b1 : (a0_3 != 0) = true := bne_iff_ne.mpr c83
              obtain rfl := Option.some.inj H
              have hcz89_0 : wc.cell? ⟨gb187, 0, none⟩ = some (.int .i64 a0_0) := (blk_cell BK187.out 0).trans rfl
              have hcz89_1 : wc.cell? ⟨gb187, 1, none⟩ = some (.int .i64 a0_1) := (blk_cell BK187.out 1).trans rfl
              have hcz89_2 : wc.cell? ⟨gb187, 2, none⟩ = some (.int .i64 a0_2) := (blk_cell BK187.out 2).trans rfl
              have hcz89_3 : wc.cell? ⟨gb187, 3, none⟩ = some (.int .i64 a0_3) := (blk_cell BK187.out 3).trans rfl
              have hcz89_4 : wc.cell? ⟨gb187, 4, none⟩ = some (.int .i64 a0_4) := (blk_cell BK187.out 4).trans rfl
              have hcz89_5 : wc.cell? ⟨gb187, 5, none⟩ = some (.string a0_5) := (blk_cell BK187.out 5).trans rfl
              have hcz89_6 : wc.cell? ⟨gb187, 6, none⟩ = some (.int .i64 a0_6) := (blk_cell BK187.out 6).trans rfl
              have hcz89_7 : wc.cell? ⟨gb187, 7, none⟩ = some (.int .i64 a0_7) := (blk_cell BK187.out 7).trans rfl
              have hcz89_8 : wc.cell? ⟨gb187, 8, none⟩ = some (.string a0_8) := (blk_cell BK187.out 8).trans rfl
              have hfz89_0 := blk_frozen BK187.out 0
              have hfz89_1 := blk_frozen BK187.out 1
              have hfz89_2 := blk_frozen BK187.out 2
              have hfz89_3 := blk_frozen BK187.out 3
              have hfz89_4 := blk_frozen BK187.out 4
              have hfz89_5 := blk_frozen BK187.out 5
              have hfz89_6 := blk_frozen BK187.out 6
              have hfz89_7 := blk_frozen BK187.out 7
              have hfz89_8 := blk_frozen BK187.out 8
              go_wp2
              go_ret
              exact ⟨by first | rfl | (simp [errW_none, errW_some] <;> rfl) | (simp [*, errW_none, errW_some] <;> rfl), by repeat (first | (with_reducible first | exact HB.out | apply below_alloc | apply pw_below_drewN | apply below_drew1 | refine below_set ?_ GE187.out) | exact HB.out)⟩
           ·rw [if_neg c76] at H
            have c76b0 : (a0_4 == 0) = false := beq_eq_false_iff_ne.mpr c76
            have c76b1 : (a0_4 != 0) = true := bne_iff_ne.mpr c76
            obtain rfl := Option.some.inj H
            have hcz90_0 : wc.cell? ⟨gb187, 0, none⟩ = some (.int .i64 a0_0) := (blk_cell BK187.out 0).trans rfl
            have hcz90_1 : wc.cell? ⟨gb187, 1, none⟩ = some (.int .i64 a0_1) := (blk_cell BK187.out 1).trans rfl
            have hcz90_2 : wc.cell? ⟨gb187, 2, none⟩ = some (.int .i64 a0_2) := (blk_cell BK187.out 2).trans rfl
            have hcz90_3 : wc.cell? ⟨gb187, 3, none⟩ = some (.int .i64 a0_3) := (blk_cell BK187.out 3).trans rfl
            have hcz90_4 : wc.cell? ⟨gb187, 4, none⟩ = some (.int .i64 a0_4) := (blk_cell BK187.out 4).trans rfl
            have hcz90_5 : wc.cell? ⟨gb187, 5, none⟩ = some (.string a0_5) := (blk_cell BK187.out 5).trans rfl
            have hcz90_6 : wc.cell? ⟨gb187, 6, none⟩ = some (.int .i64 a0_6) := (blk_cell BK187.out 6).trans rfl
            have hcz90_7 : wc.cell? ⟨gb187, 7, none⟩ = some (.int .i64 a0_7) := (blk_cell BK187.out 7).trans rfl
            have hcz90_8 : wc.cell? ⟨gb187, 8, none⟩ = some (.string a0_8) := (blk_cell BK187.out 8).trans rfl
            have hfz90_0 := blk_frozen BK187.out 0
            have hfz90_1 := blk_frozen BK187.out 1
            have hfz90_2 := blk_frozen BK187.out 2
            have hfz90_3 := blk_frozen BK187.out 3
            have hfz90_4 := blk_frozen BK187.out 4
            have hfz90_5 := blk_frozen BK187.out 5
            have hfz90_6 := blk_frozen BK187.out 6
            have hfz90_7 := blk_frozen BK187.out 7
            have hfz90_8 := blk_frozen BK187.out 8
            go_wp2
            go_ret
            exact ⟨by first | rfl | (simp [errW_none, errW_some] <;> rfl) | (simp [*, errW_none, errW_some] <;> rfl), by repeat (first | (with_reducible first | exact HB.out | apply below_alloc | apply pw_below_drewN | apply below_drew1 | refine below_set ?_ GE187.out) | exact HB.out)⟩
         ·rw [if_neg c69] at H
          have c69b0 : (a0_2 == 0) = false := beq_eq_false_iff_ne.mpr c69
          have c69b1 : (a0_2 != 0) = true := bne_iff_ne.mpr c69
          obtain rfl := Option.some.inj H
          have hcz91_0 : wc.cell? ⟨gb187, 0, none⟩ = some (.int .i64 a0_0) := (blk_cell BK187.out 0).trans rfl
          have hcz91_1 : wc.cell? ⟨gb187, 1, none⟩ = some (.int .i64 a0_1) := (blk_cell BK187.out 1).trans rfl
          have hcz91_2 : wc.cell? ⟨gb187, 2, none⟩ = some (.int .i64 a0_2) := (blk_cell BK187.out 2).trans rfl
          have hcz91_3 : wc.cell? ⟨gb187, 3, none⟩ = some (.int .i64 a0_3) := (blk_cell BK187.out 3).trans rfl
          have hcz91_4 : wc.cell? ⟨gb187, 4, none⟩ = some (.int .i64 a0_4) := (blk_cell BK187.out 4).trans rfl
          have hcz91_5 : wc.cell? ⟨gb187, 5, none⟩ = some (.string a0_5) := (blk_cell BK187.out 5).trans rfl
          have hcz91_6 : wc.cell? ⟨gb187, 6, none⟩ = some (.int .i64 a0_6) := (blk_cell BK187.out 6).trans rfl
          have hcz91_7 : wc.cell? ⟨gb187, 7, none⟩ = some (.int .i64 a0_7) := (blk_cell BK187.out 7).trans rfl
          have hcz91_8 : wc.cell? ⟨gb187, 8, none⟩ = some (.string a0_8) := (blk_cell BK187.out 8).trans rfl
          have hfz91_0 := blk_frozen BK187.out 0
          have hfz91_1 := blk_frozen BK187.out 1
          have hfz91_2 := blk_frozen BK187.out 2
          have hfz91_3 := blk_frozen BK187.out 3
          have hfz91_4 := blk_frozen BK187.out 4
          have hfz91_5 := blk_frozen BK187.out 5
          have hfz91_6 := blk_frozen BK187.out 6
          have hfz91_7 := blk_frozen BK187.out 7
          have hfz91_8 := blk_frozen BK187.out 8
          go_wp2
          go_ret
          exact ⟨by first | rfl | (simp [errW_none, errW_some] <;> rfl) | (simp [*, errW_none, errW_some] <;> rfl), by repeat (first | (with_reducible first | exact HB.out | apply below_alloc | apply pw_below_drewN | apply below_drew1 | refine below_set ?_ GE187.out) | exact HB.out)⟩
        ·rw [if_neg c68] at H
         have c68b0 : decide (8 < a0_0) = false := decide_eq_false c68
         clear c68
         by_cases c92 : a0_0 = 6
         ·rw [if_pos c92] at H
          have c92b0 : (a0_0 == 6) = true := beq_iff_eq.mpr c92
          have c92b1 : (a0_0 != 6) = false := bne_eq_false_iff_eq.mpr c92
          clear c92
          by_cases c93 : a0_0 ≥ 9
          ·rw [if_pos c93] at H
           have c93b0 : decide (9 ≤ a0_0) = true := decide_eq_true c93
           clear c93
           obtain rfl := Option.some.inj H
           go_wp2
           go_ret
           exact ⟨by first | rfl | (simp [errW_none, errW_some] <;> rfl) | (simp [*, errW_none, errW_some] <;> rfl), by repeat (first | (with_reducible first | exact HB.out | apply below_alloc | apply pw_below_drewN | apply below_drew1 | refine below_set ?_ GE187.out) | exact HB.out)⟩
          ·rw [if_neg c93] at H
           have c93b0 : decide (9 ≤ a0_0) = false := decide_eq_false c93
           clear c93
           by_cases c94 : a0_6 = 0
           ·rw [if_pos c94] at H
            have c94b0 : (a0_6 == 0) = true := beq_iff_eq.mpr c94
            have c94b1 : (a0_6 != 0) = false := bne_eq_false_iff_eq.mpr c94
            clear c94
            obtain rfl := Option.some.inj H
            have hcz95_0 : wc.cell? ⟨gb187, 0, none⟩ = some (.int .i64 a0_0) := (blk_cell BK187.out 0).trans rfl
            have hcz95_1 : wc.cell? ⟨gb187, 1, none⟩ = some (.int .i64 a0_1) := (blk_cell BK187.out 1).trans rfl
            have hcz95_2 : wc.cell? ⟨gb187, 2, none⟩ = some (.int .i64 a0_2) := (blk_cell BK187.out 2).trans rfl
            have hcz95_3 : wc.cell? ⟨gb187, 3, none⟩ = some (.int .i64 a0_3) := (blk_cell BK187.out 3).trans rfl
            have hcz95_4 : wc.cell? ⟨gb187, 4, none⟩ = some (.int .i64 a0_4) := (blk_cell BK187.out 4).trans rfl
            have hcz95_5 : wc.cell? ⟨gb187, 5, none⟩ = some (.string a0_5) := (blk_cell BK187.out 5).trans rfl
            have hcz95_6 : wc.cell? ⟨gb187, 6, none⟩ = some (.int .i64 a0_6) := (blk_cell BK187.out 6).trans rfl
            have hcz95_7 : wc.cell? ⟨gb187, 7, none⟩ = some (.int .i64 a0_7) := (blk_cell BK187.out 7).trans rfl
            have hcz95_8 : wc.cell? ⟨gb187, 8, none⟩ = some (.string a0_8) := (blk_cell BK187.out 8).trans rfl
            have hfz95_0 := blk_frozen BK187.out 0
            have hfz95_1 := blk_frozen BK187.out 1
            have hfz95_2 := blk_frozen BK187.out 2
            have hfz95_3 := blk_frozen BK187.out 3
            have hfz95_4 := blk_frozen BK187.out 4
            have hfz95_5 := blk_frozen BK187.out 5
            have hfz95_6 := blk_frozen BK187.out 6
            have hfz95_7 := blk_frozen BK187.out 7
            have hfz95_8 := blk_frozen BK187.out 8
            go_wp2
            go_ret
            exact ⟨by first | rfl | (simp [errW_none, errW_some] <;> rfl) | (simp [*, errW_none, errW_some] <;> rfl), by repeat (first | (with_reducible first | exact HB.out | apply below_alloc | apply pw_below_drewN | apply below_drew1 | refine below_set ?_ GE187.out) | exact HB.out)⟩
           ·rw [if_neg c94] at H
            have c94b0 : (a0_6 == 0) = false := beq_eq_false_iff_ne.mpr c94
            have c94b1 : (a0_6 != 0) = true := bne_iff_ne.mpr c94
            obtain rfl := Option.some.inj H
            have hcz96_0 : wc.cell? ⟨gb187, 0, none⟩ = some (.int .i64 a0_0) := (blk_cell BK187.out 0).trans rfl
            have hcz96_1 : wc.cell? ⟨gb187, 1, none⟩ = some (.int .i64 a0_1) := (blk_cell BK187.out 1).trans rfl
            have hcz96_2 : wc.cell? ⟨gb187, 2, none⟩ = some (.int .i64 a0_2) := (blk_cell BK187.out 2).trans rfl
            have hcz96_3 : wc.cell? ⟨gb187, 3, none⟩ = some (.int .i64 a0_3) := (blk_cell BK187.out 3).trans rfl
            have hcz96_4 : wc.cell? ⟨gb187, 4, none⟩ = some (.int .i64 a0_4) := (blk_cell BK187.out 4).trans rfl
            have hcz96_5 : wc.cell? ⟨gb187, 5, none⟩ = some (.string a0_5) := (blk_cell BK187.out 5).trans rfl
            have hcz96_6 : wc.cell? ⟨gb187, 6, none⟩ = some (.int .i64 a0_6) := (blk_cell BK187.out 6).trans rfl
            have hcz96_7 : wc.cell? ⟨gb187, 7, none⟩ = some (.int .i64 a0_7) := (blk_cell BK187.out 7).trans rfl
            have hcz96_8 : wc.cell? ⟨gb187, 8, none⟩ = some (.string a0_8) := (blk_cell BK187.out 8).trans rfl
            have hfz96_0 := blk_frozen BK187.out 0
            have hfz96_1 := blk_frozen BK187.out 1
            have hfz96_2 := blk_frozen BK187.out 2
            have hfz96_3 := blk_frozen BK187.out 3
            have hfz96_4 := blk_frozen BK187.out 4
            have hfz96_5 := blk_frozen BK187.out 5
            have hfz96_6 := blk_frozen BK187.out 6
            have hfz96_7 := blk_frozen BK187.out 7
            have hfz96_8 := blk_frozen BK187.out 8
            go_wp2
            go_ret
            exact ⟨by first | rfl | (simp [errW_none, errW_some] <;> rfl) | (simp [*, errW_none, errW_some] <;> rfl), by repeat (first | (with_reducible first | exact HB.out | apply below_alloc | apply pw_below_drewN | apply below_drew1 | refine below_set ?_ GE187.out) | exact HB.out)⟩
         ·rw [if_neg c92] at H
          have c92b0 : (a0_0 == 6) = false := beq_eq_false_iff_ne.mpr c92
          have c92b1 : (a0_0 != 6) = true := bne_iff_ne.mpr c92
          by_cases c97 : a0_4 = 0
          ·rw [if_pos c97] at H
           have c97b0 : (a0_4 == 0) = true := beq_iff_eq.mpr c97
           have c97b1 : (a0_4 != 0) = false := bne_eq_false_iff_eq.mpr c97
           clear c97
           by_cases c98 : a0_0 = 9
           ·rw [if_pos c98] at H
            have c98b0 : (a0_0 == 9) = true := beq_iff_eq.mpr c98
            have c98b1 : (a0_0 != 9) = false := bne_eq_false_iff_eq.mpr c98
            clear c98
            by_cases c99 : a0_0 ≥ 9
            ·rw [if_pos c99] at H
             have c99b0 : decide (9 ≤ a0_0) = true := decide_eq_true c99
             clear c99
             obtain rfl := Option.some.inj H
             have hcz100_0 : wc.cell? ⟨gb187, 0, none⟩ = some (.int .i64 a0_0) := (blk_cell BK187.out 0).trans rfl
             have hcz100_1 : wc.cell? ⟨gb187, 1, none⟩ = some (.int .i64 a0_1) := (blk_cell BK187.out 1).trans rfl
             have hcz100_2 : wc.cell? ⟨gb187, 2, none⟩ = some (.int .i64 a0_2) := (blk_cell BK187.out 2).trans rfl
             have hcz100_3 : wc.cell? ⟨gb187, 3, none⟩ = some (.int .i64 a0_3) := (blk_cell BK187.out 3).trans rfl
             have hcz100_4 : wc.cell? ⟨gb187, 4, none⟩ = some (.int .i64 a0_4) := (blk_cell BK187.out 4).trans rfl
             have hcz100_5 : wc.cell? ⟨gb187, 5, none⟩ = some (.string a0_5) := (blk_cell BK187.out 5).trans rfl
             have hcz100_6 : wc.cell? ⟨gb187, 6, none⟩ = some (.int .i64 a0_6) := (blk_cell BK187.out 6).trans rfl
             have hcz100_7 : wc.cell? ⟨gb187, 7, none⟩ = some (.int .i64 a0_7) := (blk_cell BK187.out 7).trans rfl
             have hcz100_8 : wc.cell? ⟨gb187, 8, none⟩ = some (.string a0_8) := (blk_cell BK187.out 8).trans rfl
             have hfz100_0 := blk_frozen BK187.out 0
             have hfz100_1 := blk_frozen BK187.out 1
             have hfz100_2 := blk_frozen BK187.out 2
             have hfz100_3 := blk_frozen BK187.out 3
             have hfz100_4 := blk_frozen BK187.out 4
             have hfz100_5 := blk_frozen BK187.out 5
             have hfz100_6 := blk_frozen BK187.out 6
             have hfz100_7 := blk_frozen BK187.out 7
             have hfz100_8 := blk_frozen BK187.out 8
             go_wp2
             go_ret
             exact ⟨by first | rfl | (simp [errW_none, errW_some] <;> rfl) | (simp [*, errW_none, errW_some] <;> rfl), by repeat (first | (with_reducible first | exact HB.out | apply below_alloc | apply pw_below_drewN | apply below_drew1 | refine below_set ?_ GE187.out) | exact HB.out)⟩
            ·rw [if_neg c99] at H
             have c99b0 : decide (9 ≤ a0_0) = false := decide_eq_false c99
             clear c99
             by_cases c101 : a0_6 = 0
             ·rw [if_pos c101] at H
              have c101b0 : (a0_6 == 0) = true := beq_iff_eq.mpr c101
              have c101b1 : (a0_6 != 0) = false := bne_eq_false_iff_eq.mpr c101
              clear c101
              obtain rfl := Option.some.inj H
              have hcz102_0 : wc.cell? ⟨gb187, 0, none⟩ = some (.int .i64 a0_0) := (blk_cell BK187.out 0).trans rfl
              have hcz102_1 : wc.cell? ⟨gb187, 1, none⟩ = some (.int .i64 a0_1) := (blk_cell BK187.out 1).trans rfl
              have hcz102_2 : wc.cell? ⟨gb187, 2, none⟩ = some (.int .i64 a0_2) := (blk_cell BK187.out 2).trans rfl
              have hcz102_3 : wc.cell? ⟨gb187, 3, none⟩ = some (.int .i64 a0_3) := (blk_cell BK187.out 3).trans rfl
              have hcz102_4 : wc.cell? ⟨gb187, 4, none⟩ = some (.int .i64 a0_4) := (blk_cell BK187.out 4).trans rfl
              have hcz102_5 : wc.cell? ⟨gb187, 5, none⟩ = some (.string a0_5) := (blk_cell BK187.out 5).trans rfl
              have hcz102_6 : wc.cell? ⟨gb187, 6, none⟩ = some (.int .i64 a0_6) := (blk_cell BK187.out 6).trans rfl
              have hcz102_7 : wc.cell? ⟨gb187, 7, none⟩ = some (.int .i64 a0_7) := (blk_cell BK187.out 7).trans rfl
              have hcz102_8 : wc.cell? ⟨gb187, 8, none⟩ = some (.string a0_8) := (blk_cell BK187.out 8).trans rfl
              have hfz102_0 := blk_frozen BK187.out 0
              have hfz102_1 := blk_frozen BK187.out 1
              have hfz102_2 := blk_frozen BK187.out 2
              have hfz102_3 := blk_frozen BK187.out 3
              have hfz102_4 := blk_frozen BK187.out 4
              have hfz102_5 := blk_frozen BK187.out 5
              have hfz102_6 := blk_frozen BK187.out 6
              have hfz102_7 := blk_frozen BK187.out 7
              have hfz102_8 := blk_frozen BK187.out 8
              go_wp2
              go_ret
              exact ⟨by first | rfl | (simp [errW_none, errW_some] <;> rfl) | (simp [*, errW_none, errW_some] <;> rfl), by repeat (first | (with_reducible first | exact HB.out | apply below_alloc | apply pw_below_drewN | apply below_drew1 | refine below_set ?_ GE187.out) | exact HB.out)⟩
             ·rw [if_neg c101] at H
              have c101b0 : (a0_6 == 0) = false := beq_eq_false_iff_ne.mpr c101
              have c101b1 : (a0_6 != 0) = true := bne_iff_ne.mpr c101
              obtain rfl := Option.some.inj H
              have hcz103_0 : wc.cell? ⟨gb187, 0, none⟩ = some (.int .i64 a0_0) := (blk_cell BK187.out 0).trans rfl
              have hcz103_1 : wc.cell? ⟨gb187, 1, none⟩ = some (.int .i64 a0_1) := (blk_cell BK187.out 1).trans rfl
              have hcz103_2 : wc.cell? ⟨gb187, 2, none⟩ = some (.int .i64 a0_2) := (blk_cell BK187.out 2).trans rfl
              have hcz103_3 : wc.cell? ⟨gb187, 3, none⟩ = some (.int .i64 a0_3) := (blk_cell BK187.out 3).trans rfl
              have hcz103_4 : wc.cell? ⟨gb187, 4, none⟩ = some (.int .i64 a0_4) := (blk_cell BK187.out 4).trans rfl
              have hcz103_5 : wc.cell? ⟨gb187, 5, none⟩ = some (.string a0_5) := (blk_cell BK187.out 5).trans rfl
              have hcz103_6 : wc.cell? ⟨gb187, 6, none⟩ = some (.int .i64 a0_6) := (blk_cell BK187.out 6).trans rfl
              have hcz103_7 : wc.cell? ⟨gb187, 7, none⟩ = some (.int .i64 a0_7) := (blk_cell BK187.out 7).trans rfl
              have hcz103_8 : wc.cell? ⟨gb187, 8, none⟩ = some (.string a0_8) := (blk_cell BK187.out 8).trans rfl
              have hfz103_0 := blk_frozen BK187.out 0
              have hfz103_1 := blk_frozen BK187.out 1
              have hfz103_2 := blk_frozen BK187.out 2
              have hfz103_3 := blk_frozen BK187.out 3
              have hfz103_4 := blk_frozen BK187.out 4
              have hfz103_5 := blk_frozen BK187.out 5
              have hfz103_6 := blk_frozen BK187.out 6
              have hfz103_7 := blk_frozen BK187.out 7
              have hfz103_8 := blk_frozen BK187.out 8
              go_wp2
              go_ret
              exact ⟨by first | rfl | (simp [errW_none, errW_some] <;> rfl) | (simp [*, errW_none, errW_some] <;> rfl), by repeat (first | (with_reducible first | exact HB.out | apply below_alloc | apply pw_below_drewN | apply below_drew1 | refine below_set ?_ GE187.out) | exact HB.out)⟩
           ·rw [if_neg c98] at H
            have c98b0 : (a0_0 == 9) = false := beq_eq_false_iff_ne.mpr c98
            have c98b1 : (a0_0 != 9) = true := bne_iff_ne.mpr c98
            by_cases c104 : a0_3 = 0
            ·rw [if_pos c104] at H
             have c104b0 : (a0_3 == 0) = true := beq_iff_eq.mpr c104
             have c104b1 : (a0_3 != 0) = false := bne_eq_false_iff_eq.mpr c104
             clear c104
             by_cases c105 : a0_0 ≥ 9
             ·rw [if_pos c105] at H
              have c105b0 : decide (9 ≤ a0_0) = true := decide_eq_true c105
              clear c105
              obtain rfl := Option.some.inj H
              have hcz106_0 : wc.cell? ⟨gb187, 0, none⟩ = some (.int .i64 a0_0) := (blk_cell BK187.out 0).trans rfl
              have hcz106_1 : wc.cell? ⟨gb187, 1, none⟩ = some (.int .i64 a0_1) := (blk_cell BK187.out 1).trans rfl
              have hcz106_2 : wc.cell? ⟨gb187, 2, none⟩ = some (.int .i64 a0_2) := (blk_cell BK187.out 2).trans rfl
              have hcz106_3 : wc.cell? ⟨gb187, 3, none⟩ = some (.int .i64 a0_3) := (blk_cell BK187.out 3).trans rfl
              have hcz106_4 : wc.cell? ⟨gb187, 4, none⟩ = some (.int .i64 a0_4) := (blk_cell BK187.out 4).trans rfl
              have hcz106_5 : wc.cell? ⟨gb187, 5, none⟩ = some (.string a0_5) := (blk_cell BK187.out 5).trans rfl
              have hcz106_6 : wc.cell? ⟨gb187, 6, none⟩ = some (.int .i64 a0_6) := (blk_cell BK187.out 6).trans rfl
              have hcz106_7 : wc.cell? ⟨gb187, 7, none⟩ = some (.int .i64 a0_7) := (blk_cell BK187.out 7).trans rfl
              have hcz106_8 : wc.cell? ⟨gb187, 8, none⟩ = some (.string a0_8) := (blk_cell BK187.out 8).trans rfl
              have hfz106_0 := blk_frozen BK187.out 0
              have hfz106_1 := blk_frozen BK187.out 1
              have hfz106_2 := blk_frozen BK187.out 2
              have hfz106_3 := blk_frozen BK187.out 3
              have hfz106_4 := blk_frozen BK187.out 4
              have hfz106_5 := blk_frozen BK187.out 5
              have hfz106_6 := blk_frozen BK187.out 6
              have hfz106_7 := blk_frozen BK187.out 7
              have hfz106_8 := blk_frozen BK187.out 8
              go_wp2
              go_ret
              exact ⟨by first | rfl | (simp [errW_none, errW_some] <;> rfl) | (simp [*, errW_none, errW_some] <;> rfl), by repeat (first | (with_reducible first | exact HB.out | apply below_alloc | apply pw_below_drewN | apply below_drew1 | refine below_set ?_ GE187.out) | exact HB.out)⟩
             ·rw [if_neg c105] at H
              have c105b0 : decide (9 ≤ a0_0) = false := decide_eq_false c105
              clear c105
              by_cases c107 : a0_6 = 0
              ·rw [if_pos c107] at H
               have c107b0 : (a0_6 == 0) = true := beq_iff_eq.mpr c107
               have c107b1 : (a0_6 != 0) = false := bne_eq_false_iff_eq.mpr c107
               clear c107
               obtain rfl := Option.some.inj H
               have hcz108_0 : wc.cell? ⟨gb187, 0, none⟩ = some (.int .i64 a0_0) := (blk_cell BK187.out 0).trans rfl
               have hcz108_1 : wc.cell? ⟨gb187, 1, none⟩ = some (.int .i64 a0_1) := (blk_cell BK187.out 1).trans rfl
               have hcz108_2 : wc.cell? ⟨gb187, 2, none⟩ = some (.int .i64 a0_2) := (blk_cell BK187.out 2).trans rfl
               have hcz108_3 : wc.cell? ⟨gb187, 3, none⟩ = some (.int .i64 a0_3) := (blk_cell BK187.out 3).trans rfl
               have hcz108_4 : wc.cell? ⟨gb187, 4, none⟩ = some (.int .i64 a0_4) := (blk_cell BK187.out 4).trans rfl
               have hcz108_5 : wc.cell? ⟨gb187, 5, none⟩ = some (.string a0_5) := (blk_cell BK187.out 5).trans rfl
               have hcz108_6 : wc.cell? ⟨gb187, 6, none⟩ = some (.int .i64 a0_6) := (blk_cell BK187.out 6).trans rfl
               have hcz108_7 : wc.cell? ⟨gb187, 7, none⟩ = some (.int .i64 a0_7) := (blk_cell BK187.out 7).trans rfl
               have hcz108_8 : wc.cell? ⟨gb187, 8, none⟩ = some (.string a0_8) := (blk_cell BK187.out 8).trans rfl
               have hfz108_0 := blk_frozen BK187.out 0
               have hfz108_1 := blk_frozen BK187.out 1
               have hfz108_2 := blk_frozen BK187.out 2
               have hfz108_3 := blk_frozen BK187.out 3
               have hfz108_4 := blk_frozen BK187.out 4
               have hfz108_5 := blk_frozen BK187.out 5
               have hfz108_6 := blk_frozen BK187.out 6
               have hfz108_7 := blk_frozen BK187.out 7
               have hfz108_8 := blk_frozen BK187.out 8
               go_wp2
               go_ret
               exact ⟨by first | rfl | (simp [errW_none, errW_some] <;> rfl) | (simp [*, errW_none, errW_some] <;> rfl), by repeat (first | (with_reducible first | exact HB.out | apply below_alloc | apply pw_below_drewN | apply below_drew1 | refine below_set ?_ GE187.out) | exact HB.out)⟩
              ·rw [if_neg c107] at H
               have c107b0 : (a0_6 == 0) = false := beq_eq_false_iff_ne.mpr c107
               have c107b1 : (a0_6 != 0) = true := bne_iff_ne.mpr c107
               obtain rfl := Option.some.inj H
               have hcz109_0 : wc.cell? ⟨gb187, 0, none⟩ = some (.int .i64 a0_0) := (blk_cell BK187.out 0).trans rfl
               have hcz109_1 : wc.cell? ⟨gb187, 1, none⟩ = some (.int .i64 a0_1) := (blk_cell BK187.out 1).trans rfl
               have hcz109_2 : wc.cell? ⟨gb187, 2, none⟩ = some (.int .i64 a0_2) := (blk_cell BK187.out 2).trans rfl
               have hcz109_3 : wc.cell? ⟨gb187, 3, none⟩ = some (.int .i64 a0_3) := (blk_cell BK187.out 3).trans rfl
               have hcz109_4 : wc.cell? ⟨gb187, 4, none⟩ = some (.int .i64 a0_4) := (blk_cell BK187.out 4).trans rfl
               have hcz109_5 : wc.cell? ⟨gb187, 5, none⟩ = some (.string a0_5) := (blk_cell BK187.out 5).trans rfl
               have hcz109_6 : wc.cell? ⟨gb187, 6, none⟩ = some (.int .i64 a0_6) := (blk_cell BK187.out 6).trans rfl
               have hcz109_7 : wc.cell? ⟨gb187, 7, none⟩ = some (.int .i64 a0_7) := (blk_cell BK187.out 7).trans rfl
               have hcz109_8 : wc.cell? ⟨gb187, 8, none⟩ = some (.string a0_8) := (blk_cell BK187.out 8).trans rfl
               have hfz109_0 := blk_frozen BK187.out 0
               have hfz109_1 := blk_frozen BK187.out 1
               have hfz109_2 := blk_frozen BK187.out 2
               have hfz109_3 := blk_frozen BK187.out 3
               have hfz109_4 := blk_frozen BK187.out 4
               have hfz109_5 := blk_frozen BK187.out 5
               have hfz109_6 := blk_frozen BK187.out 6
               have hfz109_7 := blk_frozen BK187.out 7
               have hfz109_8 := blk_frozen BK187.out 8
               go_wp2
               go_ret
               exact ⟨by first | rfl | (simp [errW_none, errW_some] <;> rfl) | (simp [*, errW_none, errW_some] <;> rfl), by repeat (first | (with_reducible first | exact HB.out | apply below_alloc | apply pw_below_drewN | apply below_drew1 | refine below_set ?_ GE187.out) | exact HB.out)⟩
            ·rw [if_neg c104] at H
             have c104b0 : (a0_3 == 0) = false := beq_eq_false_iff_ne.mpr c104
             have c104b1 : (a0_3 != 0) = true := bne_iff_ne.mpr c104
             obtain rfl := Option.some.inj H
             have hcz110_0 : wc.cell? ⟨gb187, 0, none⟩ = some (.int .i64 a0_0) := (blk_cell BK187.out 0).trans rfl
             have hcz110_1 : wc.cell? ⟨gb187, 1, none⟩ = some (.int .i64 a0_1) := (blk_cell BK187.out 1).trans rfl
             have hcz110_2 : wc.cell? ⟨gb187, 2, none⟩ = some (.int .i64 a0_2) := (blk_cell BK187.out 2).trans rfl
             have hcz110_3 : wc.cell? ⟨gb187, 3, none⟩ = some (.int .i64 a0_3) := (blk_cell BK187.out 3).trans rfl
             have hcz110_4 : wc.cell? ⟨gb187, 4, none⟩ = some (.int .i64 a0_4) := (blk_cell BK187.out 4).trans rfl
             have hcz110_5 : wc.cell? ⟨gb187, 5, none⟩ = some (.string a0_5) := (blk_cell BK187.out 5).trans rfl
             have hcz110_6 : wc.cell? ⟨gb187, 6, none⟩ = some (.int .i64 a0_6) := (blk_cell BK187.out 6).trans rfl
             have hcz110_7 : wc.cell? ⟨gb187, 7, none⟩ = some (.int .i64 a0_7) := (blk_cell BK187.out 7).trans rfl
             have hcz110_8 : wc.cell? ⟨gb187, 8, none⟩ = some (.string a0_8) := (blk_cell BK187.out 8).trans rfl
             have hfz110_0 := blk_frozen BK187.out 0
             have hfz110_1 := blk_frozen BK187.out 1
             have hfz110_2 := blk_frozen BK187.out 2
             have hfz110_3 := blk_frozen BK187.out 3
             have hfz110_4 := blk_frozen BK187.out 4
             have hfz110_5 := blk_frozen BK187.out 5
             have hfz110_6 := blk_frozen BK187.out 6
             have hfz110_7 := blk_frozen BK187.out 7
             have hfz110_8 := blk_frozen BK187.out 8
             go_wp2
             go_ret
             exact ⟨by first | rfl | (simp [errW_none, errW_some] <;> rfl) | (simp [*, errW_none, errW_some] <;> rfl), by repeat (first | (with_reducible first | exact HB.out | apply below_alloc | apply pw_below_drewN | apply below_drew1 | refine below_set ?_ GE187.out) | exact HB.out)⟩
          ·rw [if_neg c97] at H
           have c97b0 : (a0_4 == 0) = false := beq_eq_false_iff_ne.mpr c97
           have c97b1 : (a0_4 != 0) = true := bne_iff_ne.mpr c97
           obtain rfl := Option.some.inj H
           have hcz111_0 : wc.cell? ⟨gb187, 0, none⟩ = some (.int .i64 a0_0) := (blk_cell BK187.out 0).trans rfl
           have hcz111_1 : wc.cell? ⟨gb187, 1, none⟩ = some (.int .i64 a0_1) := (blk_cell BK187.out 1).trans rfl
           have hcz111_2 : wc.cell? ⟨gb187, 2, none⟩ = some (.int .i64 a0_2) := (blk_cell BK187.out 2).trans rfl
           have hcz111_3 : wc.cell? ⟨gb187, 3, none⟩ = some (.int .i64 a0_3) := (blk_cell BK187.out 3).trans rfl
           have hcz111_4 : wc.cell? ⟨gb187, 4, none⟩ = some (.int .i64 a0_4) := (blk_cell BK187.out 4).trans rfl
           have hcz111_5 : wc.cell? ⟨gb187, 5, none⟩ = some (.string a0_5) := (blk_cell BK187.out 5).trans rfl
           have hcz111_6 : wc.cell? ⟨gb187, 6, none⟩ = some (.int .i64 a0_6) := (blk_cell BK187.out 6).trans rfl
           have hcz111_7 : wc.cell? ⟨gb187, 7, none⟩ = some (.int .i64 a0_7) := (blk_cell BK187.out 7).trans rfl
           have hcz111_8 : wc.cell? ⟨gb187, 8, none⟩ = some (.string a0_8) := (blk_cell BK187.out 8).trans rfl
           have hfz111_0 := blk_frozen BK187.out 0
           have hfz111_1 := blk_frozen BK187.out 1
           have hfz111_2 := blk_frozen BK187.out 2
           have hfz111_3 := blk_frozen BK187.out 3
           have hfz111_4 := blk_frozen BK187.out 4
           have hfz111_5 := blk_frozen BK187.out 5
           have hfz111_6 := blk_frozen BK187.out 6
           have hfz111_7 := blk_frozen BK187.out 7
           have hfz111_8 := blk_frozen BK187.out 8
           go_wp2
           go_ret
           exact ⟨by first | rfl | (simp [errW_none, errW_some] <;> rfl) | (simp [*, errW_none, errW_some] <;> rfl), by repeat (first | (with_reducible first | exact HB.out | apply below_alloc | apply pw_below_drewN | apply below_drew1 | refine below_set ?_ GE187.out) | exact HB.out)⟩

end Go.Proofs.YtndgaeldndgioaaGreatDoor.QAll
end

section
/- squelchref30.Parse, walked by hand: what all kinds share. -/
set_option linter.unusedVariables false
set_option linter.unusedSimpArgs false
namespace Go.Proofs.YtndgaeldndgioaaGreatDoor.QAll
open Go.RowKit Go.Proofs.YtndgaeldndgioaaGreatDoorW.PrintWords Go.Proofs.YtndgaeldndgioaaGreatDoorW.PrintLast Go.Proofs.YtndgaeldndgioaaGreatDoorW.PrintMore

/-- A row of texts that lies in one block. -/
theorem row_block {w' : World} {B : Nat} {v : Value} {ls : List ByteArray} (hR : Kd.R Kd.string 9 w' B (fun _ => True) v ls) (hne : ls ≠ []) :
    ∃ gw c cs, v = .slice (some ⟨gw, 0, none⟩) ls.length c ∧ B ≤ gw ∧ w'.heap[gw]? = some (.cells cs 9 (0, 0)) ∧ ∀ (j : Nat) x, ls[j]? = some x → cs[j]? = some (.string x) := by
  obtain ⟨g, c, rfl, hg, hlt, cs, hcs⟩ := Kd.R_form hR (List.length_pos_iff.2 hne)
  refine ⟨g, c, cs, rfl, hg, hcs, fun j x hx => ?_⟩
  have hj : j < ls.length := (List.getElem?_eq_some_iff.1 hx).1
  obtain ⟨cs', hcl, hM, hcc, _⟩ := Kd.R_elem hR ByteArray.empty (j : Int) (by omega) (by omega)
  have hk : Kd.string.K w' (ls.getD j ByteArray.empty) cs' := Kd.string.K_of_M hM
  have hk' : cs' = [.string (ls.getD j ByteArray.empty)] := hk
  subst hk'
  have := hcc 0 _ rfl
  rw [List.getD_eq_getElem?_getD, hx] at this
  simp [World.cell?, hcs] at this
  rw [show j * Kd.string.sz = j from Nat.mul_one j] at this
  exact this
theorem words_at (K : Nat) (s : ByteArray) (ls : List ByteArray) (w : World) (h : squelchref30_words.f K s = some ls) (hne : ls ≠ []) : Calls Tryz.prog 17 #[.string s] w fun e w' => (∃ gw c cs, e = .returned (.slice (some ⟨gw, 0, none⟩) ls.length c) ∧ w.heap.size ≤ gw ∧ w'.heap[gw]? = some (.cells cs 9 (0, 0)) ∧ ∀ (j : Nat) x, ls[j]? = some x → cs[j]? = some (.string x)) ∧ Below w.heap.size w w' := by
  refine (squelchref30_words.calls K s ls w h).mono ?_
  rintro e w' ⟨v, rfl, hR, hb⟩
  obtain ⟨gw, c, cs, rfl, h1, h2, h3⟩ := row_block hR hne
  exact ⟨⟨gw, c, cs, rfl, h1, h2, h3⟩, hb⟩
theorem names_bl (w : World) : Calls Tryz.prog 18 #[] w fun e w' => (∃ gw c cs, e = .returned (.slice (some ⟨gw, 0, none⟩) 12 c) ∧ w.heap.size ≤ gw ∧ w'.heap[gw]? = some (.cells cs 9 (0, 0)) ∧ ∀ (j : Nat) x, namesL[j]? = some x → cs[j]? = some (.string x)) ∧ Below w.heap.size w w' := by
  refine (squelchref30_Names.calls namesL w rfl).mono ?_
  rintro e w' ⟨v, rfl, hR, hb⟩
  obtain ⟨gw, c, cs, rfl, h1, h2, h3⟩ := row_block hR (by decide)
  exact ⟨⟨gw, c, cs, rfl, h1, h2, h3⟩, hb⟩
/-- The kind that the names up to one tell. -/
def kindUp (l0 : ByteArray) : Nat → Nat
  | 0 => 0
  | j + 1 => if nameOf (j + 1) = l0 then j + 1 else kindUp l0 j
def z9 : Array Value := #[.int .i64 0, .int .i64 0, .int .i64 0, .int .i64 0, .int .i64 0, .string ⟨#[]⟩, .int .i64 0, .int .i64 0, .string ⟨#[]⟩]
/-- The blocks: the result's, the words', the event's; the names'. -/
structure PX (w0 : World) (gw g : Nat) (cw : Array Value) (ce : Array Value) (W : World) : Prop where
  b : Below w0.heap.size w0 W
  r : W.heap[w0.heap.size]? = some (.cells #[.int .i64 0, .int .i64 0, .int .i64 0, .int .i64 0, .int .i64 0, .string ⟨#[]⟩, .int .i64 0, .int .i64 0, .string ⟨#[]⟩] 31 (0, 0))
  w : W.heap[gw]? = some (.cells cw 9 (0, 0))
  e : W.heap[g]? = some (.cells ce 31 (0, 0))
  h1 : w0.heap.size < gw
  h2 : gw < g
theorem PX_below {w0 W W' : World} {gw g : Nat} {cw ce : Array Value} (h : PX w0 gw g cw ce W) (hb : Below W.heap.size W W') : PX w0 gw g cw ce W' :=
  ⟨below_then h.b h.b.size hb, (hb.block _ (lt_of_some h.r)).trans h.r, (hb.block _ (lt_of_some h.w)).trans h.w, (hb.block _ (lt_of_some h.e)).trans h.e, h.h1, h.h2⟩
theorem PX_alloc {w0 W : World} {gw g : Nat} {cw ce : Array Value} (h : PX w0 gw g cw ce W) (o : Obj) : PX w0 gw g cw ce (W.alloc o) := PX_below h ((Below.refl _ _).alloc (Nat.le_refl _) o)
theorem PX_drewN {w0 W : World} {gw g : Nat} {cw ce : Array Value} (h : PX w0 gw g cw ce W) (n : Nat) : PX w0 gw g cw ce (W.drewN n) := PX_below h (pw_below_drewN (Below.refl _ _) n)
theorem PX_set {w0 W : World} {gw g : Nat} {cw ce : Array Value} (h : PX w0 gw g cw ce W) (j : Nat) (u : Value) : PX w0 gw g cw (ce.setIfInBounds j u) (W.setCell ⟨g, j, none⟩ u) := by
  obtain ⟨hb, hr, hw, he, h1, h2⟩ := h
  have n1 : ¬ g = w0.heap.size := by omega
  have n2 : ¬ g = gw := by omega
  refine ⟨hb.setCell (p := ⟨g, j, none⟩) (show w0.heap.size ≤ g by omega) u, ?_, ?_, ?_, h1, h2⟩
  · simp [World.setCell, Array.getElem?_modify, n1, hr]
  · simp [World.setCell, Array.getElem?_modify, n2, hw]
  · simp [World.setCell, Array.getElem?_modify, he]
theorem PX_drew {w0 W : World} {gw g : Nat} {cw ce : Array Value} (h : PX w0 gw g cw ce W) : PX w0 gw g cw ce W.drew := PX_below h (below_drew (Below.refl _ _))
theorem set_ne {W : World} {g i : Nat} {o : Option Obj} (h : W.heap[i]? = o) (hne : ¬ g = i) (k : Nat) (u : Value) : (W.setCell ⟨g, k, none⟩ u).heap[i]? = o := by
  simp [World.setCell, Array.getElem?_modify, hne, h]
theorem PX_to' {w0 W W' : World} {gw g : Nat} {cw ce' : Array Value} (hb : Below W.heap.size W W') (h : ∃ ce, PX w0 gw g cw ce W ∧ ce = ce') : PX w0 gw g cw ce' W' := by
  obtain ⟨_, h, rfl⟩ := h
  exact PX_below h hb
theorem below_sets9 {B : Nat} {w W : World} {h : Nat} (hb : Below B w W) (hB : B ≤ h) (a b c d e f i j k : Value) : Below B w (((((((((W.setCell ⟨h, 0, none⟩ a).setCell ⟨h, 1, none⟩ b).setCell ⟨h, 2, none⟩ c).setCell ⟨h, 3, none⟩ d).setCell ⟨h, 4, none⟩ e).setCell ⟨h, 5, none⟩ f).setCell ⟨h, 6, none⟩ i).setCell ⟨h, 7, none⟩ j).setCell ⟨h, 8, none⟩ k) :=
  ((((((((hb.setCell (p := ⟨h, 0, none⟩) hB a).setCell (p := ⟨h, 1, none⟩) hB b).setCell (p := ⟨h, 2, none⟩) hB c).setCell (p := ⟨h, 3, none⟩) hB d).setCell (p := ⟨h, 4, none⟩) hB e).setCell (p := ⟨h, 5, none⟩) hB f).setCell (p := ⟨h, 6, none⟩) hB i).setCell (p := ⟨h, 7, none⟩) hB j).setCell (p := ⟨h, 8, none⟩) hB k
theorem toList_ne {p s : ByteArray} (hq : ¬ p = s) : (p.toList == s.toList) = false := beq_eq_false_iff_ne.2 (fun h => hq (by
  rw [Go.ByteArray.toList_eq, Go.ByteArray.toList_eq] at h
  cases p; cases s
  congr 1
  exact Array.ext' h))
def needL : List Nat := [0, 3, 3, 2, 2, 3, 5, 3, 3, 5, 4, 4]
def needN (k : Nat) : Nat := needL.getD k 0
theorem needN_at : ∀ k : Nat, k < 12 → (#[.int .i64 0, .int .i64 3, .int .i64 3, .int .i64 2, .int .i64 2, .int .i64 3, .int .i64 5, .int .i64 3, .int .i64 3, .int .i64 5, .int .i64 4, .int .i64 4] : Array Value)[k]? = some (.int .i64 (needN k : Int))
  | 0, _ => rfl | 1, _ => rfl | 2, _ => rfl | 3, _ => rfl | 4, _ => rfl | 5, _ => rfl | 6, _ => rfl | 7, _ => rfl | 8, _ => rfl | 9, _ => rfl | 10, _ => rfl | 11, _ => rfl
  | k + 12, h => absurd h (by omega)
theorem cell_of {W : World} {g j : Nat} {cs : Array Value} {t : TypeId} {v : Value} (h : W.heap[g]? = some (.cells cs t (0, 0))) (hv : cs[j]? = some v) : W.cell? ⟨g, j, none⟩ = some v := by
  simp [World.cell?, h, hv]
end Go.Proofs.YtndgaeldndgioaaGreatDoor.QAll
end

section
/- squelchref30.Parse, walked by hand: a line of kind 1. -/
set_option linter.unusedVariables false
set_option linter.unusedSimpArgs false
namespace Go.Proofs.YtndgaeldndgioaaGreatDoor.QAll
open Go.RowKit Go.Proofs.YtndgaeldndgioaaGreatDoorW.PrintWords Go.Proofs.YtndgaeldndgioaaGreatDoorW.PrintLast Go.Proofs.YtndgaeldndgioaaGreatDoorW.PrintMore
set_option maxHeartbeats 16000000 in
set_option maxRecDepth 100000 in
theorem rparse1 (s l0 w1d w2d : ByteArray) (K1 K2 K3 K4 : Nat) (a : Int) (t : ByteArray) (rb : Bool) (p : ByteArray) (o : Value) (ok : Bool) (w : World) (ho : (rb = true ∧ p = s ∧ o = rV 1 a 0 0 0 t 0 0 ⟨#[]⟩ ∧ ok = true) ∨ (¬ (rb = true ∧ p = s) ∧ o = rV 0 0 0 0 0 ⟨#[]⟩ 0 0 ⟨#[]⟩ ∧ ok = false)) (hw : squelchref30_words.f K1 s = some [l0, w1d, w2d]) (hk : kindUp l0 11 = 1) (ha : squelchref30_number.f K2 w1d = some a) (ht : squelchref30_bytes.f K4 w2d true = some t)
    (hr : squelchref30_Right.f K3 1 a 0 0 0 t 0 0 ⟨#[]⟩ = some rb) (hp : rb = true → squelchref30_Print.f 1 a 0 0 0 t 0 0 ⟨#[]⟩ = some p) :
    Calls Tryz.prog 8 #[.string s] w fun r w' => r = .returned (.tuple #[o, .bool ok]) ∧ Below w.heap.size w w' := by
  have HO := Aside0.mk ho
  clear ho
  have HW := Aside0.mk hw
  have HK := Aside0.mk hk
  have HR := Aside0.mk hr
  have HP := Aside0.mk hp
  have Ja := Aside0.mk ha
  have Jt := Aside0.mk ht
  clear hw hk hr hp ha ht
  go_enter Tryz.func8, Tryz.ntmps8
  go_wp2_with (fail)
  (with_reducible refine (words_at K1 s _ _ HW.out (by simp)).mono ?_)
  rintro e w2 ⟨⟨gw, cw, csw, rfl, hgw, hbw, hcw⟩, hb2⟩
  have HB2 := Aside0.mk (below_step ((Below.refl w.heap.size w).alloc (Nat.le_refl _) _) hb2)
  have HX2 := Aside0.mk ((hb2.block w.heap.size (by simp)).trans (heap_alloc_new w _))
  have HWb := Aside0.mk hbw
  have HCw := Aside0.mk hcw
  have hgw' : w.heap.size < gw := Nat.lt_of_lt_of_le (by simp) hgw
  have hlt2 : gw < w2.heap.size := lt_of_some hbw
  clear hb2 hbw hcw hgw
  have HQ := Aside0.mk (show PX w gw w2.heap.size csw #[.int .i64 0, .int .i64 0, .int .i64 0, .int .i64 0, .int .i64 0, .string ⟨#[]⟩, .int .i64 0, .int .i64 0, .string ⟨#[]⟩] (w2.alloc (.cells #[.int .i64 0, .int .i64 0, .int .i64 0, .int .i64 0, .int .i64 0, .string ⟨#[]⟩, .int .i64 0, .int .i64 0, .string ⟨#[]⟩] 31 (0, 0))) from ⟨below_alloc HB2.out _, (Below.heap_alloc _ _ _ (Nat.lt_trans hgw' hlt2)).trans HX2.out, (Below.heap_alloc _ _ _ hlt2).trans HWb.out, heap_alloc_new _ _, hgw', hlt2⟩)
  clear HB2 HX2 HWb
  go_wp2_with (fail)
  (with_reducible refine (names_bl _).mono ?_)
  rintro e w3 ⟨⟨gn, cn, csn, rfl, hgn, hbn, hcn⟩, hb3⟩
  have HQ3 := Aside0.mk (PX_below HQ.out hb3)
  have HNb := Aside0.mk hbn
  have HCn := Aside0.mk hcn
  have hgn' : w2.heap.size < gn := Nat.lt_of_lt_of_le (by simp) hgn
  clear hb3 HQ hbn hcn hgn
  generalize w2.heap.size = g at HQ3 hgn' hlt2 ⊢
  go_wp2_with (fail)
  go_loopw [7] (fun v7 wr => ∃ (j : Nat), j ≤ 11 ∧ v7 = .int .i64 ((j : Int) + 1) ∧ Aside0 (PX w gw g csw #[.int .i64 (kindUp l0 j : Int), .int .i64 0, .int .i64 0, .int .i64 0, .int .i64 0, .string ⟨#[]⟩, .int .i64 0, .int .i64 0, .string ⟨#[]⟩] wr) ∧ Aside0 (wr.heap[gn]? = some (.cells csn 9 (0, 0)))) (fun v7 _ => 12 - (intOf v7).toNat)
  case atStart => exact ⟨0, by omega, rfl, HQ3, HNb⟩
  case round =>
    obtain ⟨j, hj, rfl, HQj, HNj⟩ := hrel
    clear HQ3 HNb
    have hw0 := cell_of HQj.out.w (HCw.out 0 l0 rfl)
    by_cases hlt : j < 11
    · have hn0 := cell_of HNj.out (HCn.out (j + 1) (nameOf (j + 1)) (by unfold nameOf; rw [List.getD_eq_getElem?_getD, List.getElem?_eq_getElem (show j + 1 < namesL.length by show j + 1 < 12; omega)]; rfl))
      have hj0 : (0 ≤ (j : Int) + 1) = True := eq_true (by omega)
      have hj1 : ((j : Int) + 1 < 12) = True := eq_true (by omega)
      by_cases hq : nameOf (j + 1) = l0
      · have hqb : ((nameOf (j + 1)).toList == l0.toList) = true := by rw [hq]; exact beq_self_eq_true _
        have hup : kindUp l0 (j + 1) = j + 1 := by rw [kindUp, if_pos hq]
        have he0 := cell_of HQj.out.e (j := 0) rfl
        have hf0 := Lib.frozen_of_heap HQj.out.e 0
        go_wp2_with (fail)
        go_region_with (fail)
        all_goals go_wp2_with (fail)
        all_goals (go_roundw; (case rel => exact ⟨j + 1, by omega, rfl, ⟨by rw [hup]; repeat (first | exact PX_set HQj.out 0 _ | apply PX_drew)⟩, ⟨(set_ne HNj.out (show ¬ g = gn by omega) 0 _)⟩⟩); (case measure => simp [intOf]; omega))
      · have hqb : ((nameOf (j + 1)).toList == l0.toList) = false := beq_eq_false_iff_ne.2 (fun h => hq (by
          rw [Go.ByteArray.toList_eq, Go.ByteArray.toList_eq] at h
          generalize nameOf (j + 1) = nm at h
          cases nm; cases l0
          congr 1
          exact Array.ext' h))
        have hup : kindUp l0 (j + 1) = kindUp l0 j := by rw [kindUp, if_neg hq]
        go_wp2_with (fail)
        go_region_with (fail)
        all_goals go_wp2_with (fail)
        all_goals (go_roundw; (case rel => exact ⟨j + 1, by omega, rfl, ⟨by rw [hup]; repeat (first | exact HQj.out | apply PX_drew)⟩, ⟨HNj.out⟩⟩); (case measure => simp [intOf]; omega))
    · obtain rfl : j = 11 := by omega
      rw [HK.out] at HQj
      have HQ4 := Aside0.mk (show PX w gw g csw #[.int .i64 1, .int .i64 0, .int .i64 0, .int .i64 0, .int .i64 0, .string ⟨#[]⟩, .int .i64 0, .int .i64 0, .string ⟨#[]⟩] wr from HQj.out)
      have HQ0 := Aside0.mk (PX_alloc HQ4.out (.cells #[.int .i64 0, .int .i64 3, .int .i64 3, .int .i64 2, .int .i64 2, .int .i64 3, .int .i64 5, .int .i64 3, .int .i64 3, .int .i64 5, .int .i64 4, .int .i64 4] 3 (0, 0)))
      have HN5 := Aside0.mk (heap_alloc_new wr (.cells #[.int .i64 0, .int .i64 3, .int .i64 3, .int .i64 2, .int .i64 2, .int .i64 3, .int .i64 5, .int .i64 3, .int .i64 3, .int .i64 5, .int .i64 4, .int .i64 4] 3 (0, 0)))
      generalize hw6 : wr.alloc (.cells #[.int .i64 0, .int .i64 3, .int .i64 3, .int .i64 2, .int .i64 2, .int .i64 3, .int .i64 5, .int .i64 3, .int .i64 3, .int .i64 5, .int .i64 4, .int .i64 4] 3 (0, 0)) = v0 at HQ0 HN5
      clear HQj HQ4 HNj hw0
      obtain ⟨k0, k1, k2, k3, k4, k5, k6, k7, k8⟩ := cells9 HQ0.out.e
      have hn := cell_of HN5.out (j := 1) rfl
      have hwj := cell_of HQ0.out.w (HCw.out 1 _ rfl)
      go_wp2_with (fail)
      (with_reducible refine (squelchref30_number.calls K2 w1d a _ Ja.out).mono ?_)
      rintro r v1 ⟨rfl, hd⟩
      have HQ1 := Aside0.mk (show PX w gw g csw #[.int .i64 1, .int .i64 0, .int .i64 0, .int .i64 0, .int .i64 0, .string ⟨#[]⟩, .int .i64 0, .int .i64 0, .string ⟨#[]⟩] v1 from PX_below HQ0.out hd.below)
      clear HQ0 hd hwj hn hw6 HN5 k0 k1 k2 k3 k4 k5 k6 k7 k8
      obtain ⟨k0, k1, k2, k3, k4, k5, k6, k7, k8⟩ := cells9 HQ1.out.e
      have hwj := cell_of HQ1.out.w (HCw.out 2 _ rfl)
      have f1 := Lib.frozen_of_heap HQ1.out.e 1
      go_wp2_with (fail)
      (with_reducible refine (squelchref30_bytes.calls K4 w2d true t _ Jt.out).mono ?_)
      rintro r v2 ⟨rfl, hd⟩
      have HQ2 := Aside0.mk (show PX w gw g csw #[.int .i64 1, .int .i64 a, .int .i64 0, .int .i64 0, .int .i64 0, .string ⟨#[]⟩, .int .i64 0, .int .i64 0, .string ⟨#[]⟩] v2 from PX_below (PX_set HQ1.out 1 (.int .i64 a)) hd)
      clear HQ1 hd hwj  k0 k1 k2 k3 k4 k5 k6 k7 k8 f1
      obtain ⟨k0, k1, k2, k3, k4, k5, k6, k7, k8⟩ := cells9 HQ2.out.e
      have f5 := Lib.frozen_of_heap HQ2.out.e 5
      go_wp2_with (fail)
      (with_reducible refine (squelchref30_Right.calls K3 1 a 0 0 0 t 0 0 ⟨#[]⟩ rb _ HR.out).mono ?_)
      rintro r v3 ⟨rfl, hd⟩
      have HQ3 : Aside0 (PX w gw g csw #[.int .i64 1, .int .i64 a, .int .i64 0, .int .i64 0, .int .i64 0, .string t, .int .i64 0, .int .i64 0, .string ⟨#[]⟩] v3) := by
        refine ⟨PX_to' hd ?_⟩
        apply Exists.intro
        apply And.intro
        · repeat (first | exact HQ2.out | apply PX_set | apply PX_drewN | apply PX_drew)
        · rfl
      clear HQ2 hd k0 k1 k2 k3 k4 k5 k6 k7 k8
      obtain ⟨k0, k1, k2, k3, k4, k5, k6, k7, k8⟩ := cells9 HQ3.out.e
      cases rb with
      | false =>
        obtain ⟨rfl, rfl⟩ := (show o = rV 0 0 0 0 0 ⟨#[]⟩ 0 0 ⟨#[]⟩ ∧ ok = false from HO.out.elim (fun h => absurd (And.intro h.1 h.2.1) (fun h => Bool.false_ne_true h.1)) (fun h => h.2))
        obtain ⟨i0, i1, i2, i3, i4, i5, i6, i7, i8⟩ := cells9 HQ3.out.r
        have f0 := Lib.frozen_of_heap HQ3.out.r 0
        have f1 := Lib.frozen_of_heap HQ3.out.r 1
        have f2 := Lib.frozen_of_heap HQ3.out.r 2
        have f3 := Lib.frozen_of_heap HQ3.out.r 3
        have f4 := Lib.frozen_of_heap HQ3.out.r 4
        have f5 := Lib.frozen_of_heap HQ3.out.r 5
        have f6 := Lib.frozen_of_heap HQ3.out.r 6
        have f7 := Lib.frozen_of_heap HQ3.out.r 7
        have f8 := Lib.frozen_of_heap HQ3.out.r 8
        go_wp2_with (fail)
        refine bodyPost_ret (results_ct rfl _ _ w.heap.size 31 #[.int .i64 0, .int .i64 0, .int .i64 0, .int .i64 0, .int .i64 0, .string ⟨#[]⟩, .int .i64 0, .int .i64 0, .string ⟨#[]⟩] (0, 0) _ rfl ?hc Tryz.underlying31 rfl (by kernel_rfl)) rfl ?_
        case hc => exact nine_set HQ3.out.r
        exact ⟨rfl, below_sets9 HQ3.out.b (Nat.le_refl _) _ _ _ _ _ _ _ _ _⟩
      | true =>
        go_wp2_with (fail)
        (with_reducible refine (squelchref30_Print.calls 1 a 0 0 0 t 0 0 ⟨#[]⟩ p _ (HP.out (by first | rfl | trivial))).mono ?_)
        rintro r v4 ⟨rfl, hd⟩
        have HQ4 := Aside0.mk (PX_below HQ3.out hd)
        clear HQ3 hd k0 k1 k2 k3 k4 k5 k6 k7 k8
        obtain ⟨k0, k1, k2, k3, k4, k5, k6, k7, k8⟩ := cells9 HQ4.out.e
        by_cases hq : p = s
        · obtain ⟨rfl, rfl⟩ := (show o = rV 1 a 0 0 0 t 0 0 ⟨#[]⟩ ∧ ok = true from HO.out.elim (fun h => h.2.2) (fun h => absurd hq (fun e => h.1 ⟨by first | rfl | trivial, e⟩)))
          subst hq
          obtain ⟨i0, i1, i2, i3, i4, i5, i6, i7, i8⟩ := cells9 HQ4.out.r
          have f0 := Lib.frozen_of_heap HQ4.out.r 0
          have f1 := Lib.frozen_of_heap HQ4.out.r 1
          have f2 := Lib.frozen_of_heap HQ4.out.r 2
          have f3 := Lib.frozen_of_heap HQ4.out.r 3
          have f4 := Lib.frozen_of_heap HQ4.out.r 4
          have f5 := Lib.frozen_of_heap HQ4.out.r 5
          have f6 := Lib.frozen_of_heap HQ4.out.r 6
          have f7 := Lib.frozen_of_heap HQ4.out.r 7
          have f8 := Lib.frozen_of_heap HQ4.out.r 8
          go_wp2_with (fail)
          refine bodyPost_ret (results_ct rfl _ _ w.heap.size 31 #[.int .i64 1, .int .i64 a, .int .i64 0, .int .i64 0, .int .i64 0, .string t, .int .i64 0, .int .i64 0, .string ⟨#[]⟩] (0, 0) _ rfl ?hc Tryz.underlying31 rfl (by kernel_rfl)) rfl ?_
          case hc => exact nine_set HQ4.out.r
          exact ⟨rfl, below_sets9 HQ4.out.b (Nat.le_refl _) _ _ _ _ _ _ _ _ _⟩
        · have hne : (p.toList == s.toList) = false := toList_ne hq
          obtain ⟨rfl, rfl⟩ := (show o = rV 0 0 0 0 0 ⟨#[]⟩ 0 0 ⟨#[]⟩ ∧ ok = false from HO.out.elim (fun h => absurd (And.intro h.1 h.2.1) (fun h => hq h.2)) (fun h => h.2))
          obtain ⟨i0, i1, i2, i3, i4, i5, i6, i7, i8⟩ := cells9 HQ4.out.r
          have f0 := Lib.frozen_of_heap HQ4.out.r 0
          have f1 := Lib.frozen_of_heap HQ4.out.r 1
          have f2 := Lib.frozen_of_heap HQ4.out.r 2
          have f3 := Lib.frozen_of_heap HQ4.out.r 3
          have f4 := Lib.frozen_of_heap HQ4.out.r 4
          have f5 := Lib.frozen_of_heap HQ4.out.r 5
          have f6 := Lib.frozen_of_heap HQ4.out.r 6
          have f7 := Lib.frozen_of_heap HQ4.out.r 7
          have f8 := Lib.frozen_of_heap HQ4.out.r 8
          go_wp2_with (fail)
          refine bodyPost_ret (results_ct rfl _ _ w.heap.size 31 #[.int .i64 0, .int .i64 0, .int .i64 0, .int .i64 0, .int .i64 0, .string ⟨#[]⟩, .int .i64 0, .int .i64 0, .string ⟨#[]⟩] (0, 0) _ rfl ?hc Tryz.underlying31 rfl (by kernel_rfl)) rfl ?_
          case hc => exact nine_set HQ4.out.r
          exact ⟨rfl, below_sets9 HQ4.out.b (Nat.le_refl _) _ _ _ _ _ _ _ _ _⟩
end Go.Proofs.YtndgaeldndgioaaGreatDoor.QAll
end

section
/- squelchref30.Parse, walked by hand: a line of kind 2. -/
set_option linter.unusedVariables false
set_option linter.unusedSimpArgs false
namespace Go.Proofs.YtndgaeldndgioaaGreatDoor.QAll
open Go.RowKit Go.Proofs.YtndgaeldndgioaaGreatDoorW.PrintWords Go.Proofs.YtndgaeldndgioaaGreatDoorW.PrintLast Go.Proofs.YtndgaeldndgioaaGreatDoorW.PrintMore
set_option maxHeartbeats 16000000 in
set_option maxRecDepth 100000 in
theorem rparse2 (s l0 w1d w2d : ByteArray) (K1 K2 K3 K4 : Nat) (a : Int) (t : ByteArray) (rb : Bool) (p : ByteArray) (o : Value) (ok : Bool) (w : World) (ho : (rb = true ∧ p = s ∧ o = rV 2 a 0 0 0 t 0 0 ⟨#[]⟩ ∧ ok = true) ∨ (¬ (rb = true ∧ p = s) ∧ o = rV 0 0 0 0 0 ⟨#[]⟩ 0 0 ⟨#[]⟩ ∧ ok = false)) (hw : squelchref30_words.f K1 s = some [l0, w1d, w2d]) (hk : kindUp l0 11 = 2) (ha : squelchref30_number.f K2 w1d = some a) (ht : squelchref30_bytes.f K4 w2d true = some t)
    (hr : squelchref30_Right.f K3 2 a 0 0 0 t 0 0 ⟨#[]⟩ = some rb) (hp : rb = true → squelchref30_Print.f 2 a 0 0 0 t 0 0 ⟨#[]⟩ = some p) :
    Calls Tryz.prog 8 #[.string s] w fun r w' => r = .returned (.tuple #[o, .bool ok]) ∧ Below w.heap.size w w' := by
  have HO := Aside0.mk ho
  clear ho
  have HW := Aside0.mk hw
  have HK := Aside0.mk hk
  have HR := Aside0.mk hr
  have HP := Aside0.mk hp
  have Ja := Aside0.mk ha
  have Jt := Aside0.mk ht
  clear hw hk hr hp ha ht
  go_enter Tryz.func8, Tryz.ntmps8
  go_wp2_with (fail)
  (with_reducible refine (words_at K1 s _ _ HW.out (by simp)).mono ?_)
  rintro e w2 ⟨⟨gw, cw, csw, rfl, hgw, hbw, hcw⟩, hb2⟩
  have HB2 := Aside0.mk (below_step ((Below.refl w.heap.size w).alloc (Nat.le_refl _) _) hb2)
  have HX2 := Aside0.mk ((hb2.block w.heap.size (by simp)).trans (heap_alloc_new w _))
  have HWb := Aside0.mk hbw
  have HCw := Aside0.mk hcw
  have hgw' : w.heap.size < gw := Nat.lt_of_lt_of_le (by simp) hgw
  have hlt2 : gw < w2.heap.size := lt_of_some hbw
  clear hb2 hbw hcw hgw
  have HQ := Aside0.mk (show PX w gw w2.heap.size csw #[.int .i64 0, .int .i64 0, .int .i64 0, .int .i64 0, .int .i64 0, .string ⟨#[]⟩, .int .i64 0, .int .i64 0, .string ⟨#[]⟩] (w2.alloc (.cells #[.int .i64 0, .int .i64 0, .int .i64 0, .int .i64 0, .int .i64 0, .string ⟨#[]⟩, .int .i64 0, .int .i64 0, .string ⟨#[]⟩] 31 (0, 0))) from ⟨below_alloc HB2.out _, (Below.heap_alloc _ _ _ (Nat.lt_trans hgw' hlt2)).trans HX2.out, (Below.heap_alloc _ _ _ hlt2).trans HWb.out, heap_alloc_new _ _, hgw', hlt2⟩)
  clear HB2 HX2 HWb
  go_wp2_with (fail)
  (with_reducible refine (names_bl _).mono ?_)
  rintro e w3 ⟨⟨gn, cn, csn, rfl, hgn, hbn, hcn⟩, hb3⟩
  have HQ3 := Aside0.mk (PX_below HQ.out hb3)
  have HNb := Aside0.mk hbn
  have HCn := Aside0.mk hcn
  have hgn' : w2.heap.size < gn := Nat.lt_of_lt_of_le (by simp) hgn
  clear hb3 HQ hbn hcn hgn
  generalize w2.heap.size = g at HQ3 hgn' hlt2 ⊢
  go_wp2_with (fail)
  go_loopw [7] (fun v7 wr => ∃ (j : Nat), j ≤ 11 ∧ v7 = .int .i64 ((j : Int) + 1) ∧ Aside0 (PX w gw g csw #[.int .i64 (kindUp l0 j : Int), .int .i64 0, .int .i64 0, .int .i64 0, .int .i64 0, .string ⟨#[]⟩, .int .i64 0, .int .i64 0, .string ⟨#[]⟩] wr) ∧ Aside0 (wr.heap[gn]? = some (.cells csn 9 (0, 0)))) (fun v7 _ => 12 - (intOf v7).toNat)
  case atStart => exact ⟨0, by omega, rfl, HQ3, HNb⟩
  case round =>
    obtain ⟨j, hj, rfl, HQj, HNj⟩ := hrel
    clear HQ3 HNb
    have hw0 := cell_of HQj.out.w (HCw.out 0 l0 rfl)
    by_cases hlt : j < 11
    · have hn0 := cell_of HNj.out (HCn.out (j + 1) (nameOf (j + 1)) (by unfold nameOf; rw [List.getD_eq_getElem?_getD, List.getElem?_eq_getElem (show j + 1 < namesL.length by show j + 1 < 12; omega)]; rfl))
      have hj0 : (0 ≤ (j : Int) + 1) = True := eq_true (by omega)
      have hj1 : ((j : Int) + 1 < 12) = True := eq_true (by omega)
      by_cases hq : nameOf (j + 1) = l0
      · have hqb : ((nameOf (j + 1)).toList == l0.toList) = true := by rw [hq]; exact beq_self_eq_true _
        have hup : kindUp l0 (j + 1) = j + 1 := by rw [kindUp, if_pos hq]
        have he0 := cell_of HQj.out.e (j := 0) rfl
        have hf0 := Lib.frozen_of_heap HQj.out.e 0
        go_wp2_with (fail)
        go_region_with (fail)
        all_goals go_wp2_with (fail)
        all_goals (go_roundw; (case rel => exact ⟨j + 1, by omega, rfl, ⟨by rw [hup]; repeat (first | exact PX_set HQj.out 0 _ | apply PX_drew)⟩, ⟨(set_ne HNj.out (show ¬ g = gn by omega) 0 _)⟩⟩); (case measure => simp [intOf]; omega))
      · have hqb : ((nameOf (j + 1)).toList == l0.toList) = false := beq_eq_false_iff_ne.2 (fun h => hq (by
          rw [Go.ByteArray.toList_eq, Go.ByteArray.toList_eq] at h
          generalize nameOf (j + 1) = nm at h
          cases nm; cases l0
          congr 1
          exact Array.ext' h))
        have hup : kindUp l0 (j + 1) = kindUp l0 j := by rw [kindUp, if_neg hq]
        go_wp2_with (fail)
        go_region_with (fail)
        all_goals go_wp2_with (fail)
        all_goals (go_roundw; (case rel => exact ⟨j + 1, by omega, rfl, ⟨by rw [hup]; repeat (first | exact HQj.out | apply PX_drew)⟩, ⟨HNj.out⟩⟩); (case measure => simp [intOf]; omega))
    · obtain rfl : j = 11 := by omega
      rw [HK.out] at HQj
      have HQ4 := Aside0.mk (show PX w gw g csw #[.int .i64 2, .int .i64 0, .int .i64 0, .int .i64 0, .int .i64 0, .string ⟨#[]⟩, .int .i64 0, .int .i64 0, .string ⟨#[]⟩] wr from HQj.out)
      have HQ0 := Aside0.mk (PX_alloc HQ4.out (.cells #[.int .i64 0, .int .i64 3, .int .i64 3, .int .i64 2, .int .i64 2, .int .i64 3, .int .i64 5, .int .i64 3, .int .i64 3, .int .i64 5, .int .i64 4, .int .i64 4] 3 (0, 0)))
      have HN5 := Aside0.mk (heap_alloc_new wr (.cells #[.int .i64 0, .int .i64 3, .int .i64 3, .int .i64 2, .int .i64 2, .int .i64 3, .int .i64 5, .int .i64 3, .int .i64 3, .int .i64 5, .int .i64 4, .int .i64 4] 3 (0, 0)))
      generalize hw6 : wr.alloc (.cells #[.int .i64 0, .int .i64 3, .int .i64 3, .int .i64 2, .int .i64 2, .int .i64 3, .int .i64 5, .int .i64 3, .int .i64 3, .int .i64 5, .int .i64 4, .int .i64 4] 3 (0, 0)) = v0 at HQ0 HN5
      clear HQj HQ4 HNj hw0
      obtain ⟨k0, k1, k2, k3, k4, k5, k6, k7, k8⟩ := cells9 HQ0.out.e
      have hn := cell_of HN5.out (j := 2) rfl
      have hwj := cell_of HQ0.out.w (HCw.out 1 _ rfl)
      go_wp2_with (fail)
      (with_reducible refine (squelchref30_number.calls K2 w1d a _ Ja.out).mono ?_)
      rintro r v1 ⟨rfl, hd⟩
      have HQ1 := Aside0.mk (show PX w gw g csw #[.int .i64 2, .int .i64 0, .int .i64 0, .int .i64 0, .int .i64 0, .string ⟨#[]⟩, .int .i64 0, .int .i64 0, .string ⟨#[]⟩] v1 from PX_below HQ0.out hd.below)
      clear HQ0 hd hwj hn hw6 HN5 k0 k1 k2 k3 k4 k5 k6 k7 k8
      obtain ⟨k0, k1, k2, k3, k4, k5, k6, k7, k8⟩ := cells9 HQ1.out.e
      have hwj := cell_of HQ1.out.w (HCw.out 2 _ rfl)
      have f1 := Lib.frozen_of_heap HQ1.out.e 1
      go_wp2_with (fail)
      (with_reducible refine (squelchref30_bytes.calls K4 w2d true t _ Jt.out).mono ?_)
      rintro r v2 ⟨rfl, hd⟩
      have HQ2 := Aside0.mk (show PX w gw g csw #[.int .i64 2, .int .i64 a, .int .i64 0, .int .i64 0, .int .i64 0, .string ⟨#[]⟩, .int .i64 0, .int .i64 0, .string ⟨#[]⟩] v2 from PX_below (PX_set HQ1.out 1 (.int .i64 a)) hd)
      clear HQ1 hd hwj  k0 k1 k2 k3 k4 k5 k6 k7 k8 f1
      obtain ⟨k0, k1, k2, k3, k4, k5, k6, k7, k8⟩ := cells9 HQ2.out.e
      have f5 := Lib.frozen_of_heap HQ2.out.e 5
      go_wp2_with (fail)
      (with_reducible refine (squelchref30_Right.calls K3 2 a 0 0 0 t 0 0 ⟨#[]⟩ rb _ HR.out).mono ?_)
      rintro r v3 ⟨rfl, hd⟩
      have HQ3 : Aside0 (PX w gw g csw #[.int .i64 2, .int .i64 a, .int .i64 0, .int .i64 0, .int .i64 0, .string t, .int .i64 0, .int .i64 0, .string ⟨#[]⟩] v3) := by
        refine ⟨PX_to' hd ?_⟩
        apply Exists.intro
        apply And.intro
        · repeat (first | exact HQ2.out | apply PX_set | apply PX_drewN | apply PX_drew)
        · rfl
      clear HQ2 hd k0 k1 k2 k3 k4 k5 k6 k7 k8
      obtain ⟨k0, k1, k2, k3, k4, k5, k6, k7, k8⟩ := cells9 HQ3.out.e
      cases rb with
      | false =>
        obtain ⟨rfl, rfl⟩ := (show o = rV 0 0 0 0 0 ⟨#[]⟩ 0 0 ⟨#[]⟩ ∧ ok = false from HO.out.elim (fun h => absurd (And.intro h.1 h.2.1) (fun h => Bool.false_ne_true h.1)) (fun h => h.2))
        obtain ⟨i0, i1, i2, i3, i4, i5, i6, i7, i8⟩ := cells9 HQ3.out.r
        have f0 := Lib.frozen_of_heap HQ3.out.r 0
        have f1 := Lib.frozen_of_heap HQ3.out.r 1
        have f2 := Lib.frozen_of_heap HQ3.out.r 2
        have f3 := Lib.frozen_of_heap HQ3.out.r 3
        have f4 := Lib.frozen_of_heap HQ3.out.r 4
        have f5 := Lib.frozen_of_heap HQ3.out.r 5
        have f6 := Lib.frozen_of_heap HQ3.out.r 6
        have f7 := Lib.frozen_of_heap HQ3.out.r 7
        have f8 := Lib.frozen_of_heap HQ3.out.r 8
        go_wp2_with (fail)
        refine bodyPost_ret (results_ct rfl _ _ w.heap.size 31 #[.int .i64 0, .int .i64 0, .int .i64 0, .int .i64 0, .int .i64 0, .string ⟨#[]⟩, .int .i64 0, .int .i64 0, .string ⟨#[]⟩] (0, 0) _ rfl ?hc Tryz.underlying31 rfl (by kernel_rfl)) rfl ?_
        case hc => exact nine_set HQ3.out.r
        exact ⟨rfl, below_sets9 HQ3.out.b (Nat.le_refl _) _ _ _ _ _ _ _ _ _⟩
      | true =>
        go_wp2_with (fail)
        (with_reducible refine (squelchref30_Print.calls 2 a 0 0 0 t 0 0 ⟨#[]⟩ p _ (HP.out (by first | rfl | trivial))).mono ?_)
        rintro r v4 ⟨rfl, hd⟩
        have HQ4 := Aside0.mk (PX_below HQ3.out hd)
        clear HQ3 hd k0 k1 k2 k3 k4 k5 k6 k7 k8
        obtain ⟨k0, k1, k2, k3, k4, k5, k6, k7, k8⟩ := cells9 HQ4.out.e
        by_cases hq : p = s
        · obtain ⟨rfl, rfl⟩ := (show o = rV 2 a 0 0 0 t 0 0 ⟨#[]⟩ ∧ ok = true from HO.out.elim (fun h => h.2.2) (fun h => absurd hq (fun e => h.1 ⟨by first | rfl | trivial, e⟩)))
          subst hq
          obtain ⟨i0, i1, i2, i3, i4, i5, i6, i7, i8⟩ := cells9 HQ4.out.r
          have f0 := Lib.frozen_of_heap HQ4.out.r 0
          have f1 := Lib.frozen_of_heap HQ4.out.r 1
          have f2 := Lib.frozen_of_heap HQ4.out.r 2
          have f3 := Lib.frozen_of_heap HQ4.out.r 3
          have f4 := Lib.frozen_of_heap HQ4.out.r 4
          have f5 := Lib.frozen_of_heap HQ4.out.r 5
          have f6 := Lib.frozen_of_heap HQ4.out.r 6
          have f7 := Lib.frozen_of_heap HQ4.out.r 7
          have f8 := Lib.frozen_of_heap HQ4.out.r 8
          go_wp2_with (fail)
          refine bodyPost_ret (results_ct rfl _ _ w.heap.size 31 #[.int .i64 2, .int .i64 a, .int .i64 0, .int .i64 0, .int .i64 0, .string t, .int .i64 0, .int .i64 0, .string ⟨#[]⟩] (0, 0) _ rfl ?hc Tryz.underlying31 rfl (by kernel_rfl)) rfl ?_
          case hc => exact nine_set HQ4.out.r
          exact ⟨rfl, below_sets9 HQ4.out.b (Nat.le_refl _) _ _ _ _ _ _ _ _ _⟩
        · have hne : (p.toList == s.toList) = false := toList_ne hq
          obtain ⟨rfl, rfl⟩ := (show o = rV 0 0 0 0 0 ⟨#[]⟩ 0 0 ⟨#[]⟩ ∧ ok = false from HO.out.elim (fun h => absurd (And.intro h.1 h.2.1) (fun h => hq h.2)) (fun h => h.2))
          obtain ⟨i0, i1, i2, i3, i4, i5, i6, i7, i8⟩ := cells9 HQ4.out.r
          have f0 := Lib.frozen_of_heap HQ4.out.r 0
          have f1 := Lib.frozen_of_heap HQ4.out.r 1
          have f2 := Lib.frozen_of_heap HQ4.out.r 2
          have f3 := Lib.frozen_of_heap HQ4.out.r 3
          have f4 := Lib.frozen_of_heap HQ4.out.r 4
          have f5 := Lib.frozen_of_heap HQ4.out.r 5
          have f6 := Lib.frozen_of_heap HQ4.out.r 6
          have f7 := Lib.frozen_of_heap HQ4.out.r 7
          have f8 := Lib.frozen_of_heap HQ4.out.r 8
          go_wp2_with (fail)
          refine bodyPost_ret (results_ct rfl _ _ w.heap.size 31 #[.int .i64 0, .int .i64 0, .int .i64 0, .int .i64 0, .int .i64 0, .string ⟨#[]⟩, .int .i64 0, .int .i64 0, .string ⟨#[]⟩] (0, 0) _ rfl ?hc Tryz.underlying31 rfl (by kernel_rfl)) rfl ?_
          case hc => exact nine_set HQ4.out.r
          exact ⟨rfl, below_sets9 HQ4.out.b (Nat.le_refl _) _ _ _ _ _ _ _ _ _⟩
end Go.Proofs.YtndgaeldndgioaaGreatDoor.QAll
end

section
/- squelchref30.Parse, walked by hand: a line of kind 3. -/
set_option linter.unusedVariables false
set_option linter.unusedSimpArgs false
namespace Go.Proofs.YtndgaeldndgioaaGreatDoor.QAll
open Go.RowKit Go.Proofs.YtndgaeldndgioaaGreatDoorW.PrintWords Go.Proofs.YtndgaeldndgioaaGreatDoorW.PrintLast Go.Proofs.YtndgaeldndgioaaGreatDoorW.PrintMore
set_option maxHeartbeats 16000000 in
set_option maxRecDepth 100000 in
theorem rparse3 (s l0 w1d : ByteArray) (K1 K2 K3 K4 : Nat) (a : Int) (rb : Bool) (p : ByteArray) (o : Value) (ok : Bool) (w : World) (ho : (rb = true ∧ p = s ∧ o = rV 3 a 0 0 0 ⟨#[]⟩ 0 0 ⟨#[]⟩ ∧ ok = true) ∨ (¬ (rb = true ∧ p = s) ∧ o = rV 0 0 0 0 0 ⟨#[]⟩ 0 0 ⟨#[]⟩ ∧ ok = false)) (hw : squelchref30_words.f K1 s = some [l0, w1d]) (hk : kindUp l0 11 = 3) (ha : squelchref30_number.f K2 w1d = some a)
    (hr : squelchref30_Right.f K3 3 a 0 0 0 ⟨#[]⟩ 0 0 ⟨#[]⟩ = some rb) (hp : rb = true → squelchref30_Print.f 3 a 0 0 0 ⟨#[]⟩ 0 0 ⟨#[]⟩ = some p) :
    Calls Tryz.prog 8 #[.string s] w fun r w' => r = .returned (.tuple #[o, .bool ok]) ∧ Below w.heap.size w w' := by
  have HO := Aside0.mk ho
  clear ho
  have HW := Aside0.mk hw
  have HK := Aside0.mk hk
  have HR := Aside0.mk hr
  have HP := Aside0.mk hp
  have Ja := Aside0.mk ha
  clear hw hk hr hp ha
  go_enter Tryz.func8, Tryz.ntmps8
  go_wp2_with (fail)
  (with_reducible refine (words_at K1 s _ _ HW.out (by simp)).mono ?_)
  rintro e w2 ⟨⟨gw, cw, csw, rfl, hgw, hbw, hcw⟩, hb2⟩
  have HB2 := Aside0.mk (below_step ((Below.refl w.heap.size w).alloc (Nat.le_refl _) _) hb2)
  have HX2 := Aside0.mk ((hb2.block w.heap.size (by simp)).trans (heap_alloc_new w _))
  have HWb := Aside0.mk hbw
  have HCw := Aside0.mk hcw
  have hgw' : w.heap.size < gw := Nat.lt_of_lt_of_le (by simp) hgw
  have hlt2 : gw < w2.heap.size := lt_of_some hbw
  clear hb2 hbw hcw hgw
  have HQ := Aside0.mk (show PX w gw w2.heap.size csw #[.int .i64 0, .int .i64 0, .int .i64 0, .int .i64 0, .int .i64 0, .string ⟨#[]⟩, .int .i64 0, .int .i64 0, .string ⟨#[]⟩] (w2.alloc (.cells #[.int .i64 0, .int .i64 0, .int .i64 0, .int .i64 0, .int .i64 0, .string ⟨#[]⟩, .int .i64 0, .int .i64 0, .string ⟨#[]⟩] 31 (0, 0))) from ⟨below_alloc HB2.out _, (Below.heap_alloc _ _ _ (Nat.lt_trans hgw' hlt2)).trans HX2.out, (Below.heap_alloc _ _ _ hlt2).trans HWb.out, heap_alloc_new _ _, hgw', hlt2⟩)
  clear HB2 HX2 HWb
  go_wp2_with (fail)
  (with_reducible refine (names_bl _).mono ?_)
  rintro e w3 ⟨⟨gn, cn, csn, rfl, hgn, hbn, hcn⟩, hb3⟩
  have HQ3 := Aside0.mk (PX_below HQ.out hb3)
  have HNb := Aside0.mk hbn
  have HCn := Aside0.mk hcn
  have hgn' : w2.heap.size < gn := Nat.lt_of_lt_of_le (by simp) hgn
  clear hb3 HQ hbn hcn hgn
  generalize w2.heap.size = g at HQ3 hgn' hlt2 ⊢
  go_wp2_with (fail)
  go_loopw [7] (fun v7 wr => ∃ (j : Nat), j ≤ 11 ∧ v7 = .int .i64 ((j : Int) + 1) ∧ Aside0 (PX w gw g csw #[.int .i64 (kindUp l0 j : Int), .int .i64 0, .int .i64 0, .int .i64 0, .int .i64 0, .string ⟨#[]⟩, .int .i64 0, .int .i64 0, .string ⟨#[]⟩] wr) ∧ Aside0 (wr.heap[gn]? = some (.cells csn 9 (0, 0)))) (fun v7 _ => 12 - (intOf v7).toNat)
  case atStart => exact ⟨0, by omega, rfl, HQ3, HNb⟩
  case round =>
    obtain ⟨j, hj, rfl, HQj, HNj⟩ := hrel
    clear HQ3 HNb
    have hw0 := cell_of HQj.out.w (HCw.out 0 l0 rfl)
    by_cases hlt : j < 11
    · have hn0 := cell_of HNj.out (HCn.out (j + 1) (nameOf (j + 1)) (by unfold nameOf; rw [List.getD_eq_getElem?_getD, List.getElem?_eq_getElem (show j + 1 < namesL.length by show j + 1 < 12; omega)]; rfl))
      have hj0 : (0 ≤ (j : Int) + 1) = True := eq_true (by omega)
      have hj1 : ((j : Int) + 1 < 12) = True := eq_true (by omega)
      by_cases hq : nameOf (j + 1) = l0
      · have hqb : ((nameOf (j + 1)).toList == l0.toList) = true := by rw [hq]; exact beq_self_eq_true _
        have hup : kindUp l0 (j + 1) = j + 1 := by rw [kindUp, if_pos hq]
        have he0 := cell_of HQj.out.e (j := 0) rfl
        have hf0 := Lib.frozen_of_heap HQj.out.e 0
        go_wp2_with (fail)
        go_region_with (fail)
        all_goals go_wp2_with (fail)
        all_goals (go_roundw; (case rel => exact ⟨j + 1, by omega, rfl, ⟨by rw [hup]; repeat (first | exact PX_set HQj.out 0 _ | apply PX_drew)⟩, ⟨(set_ne HNj.out (show ¬ g = gn by omega) 0 _)⟩⟩); (case measure => simp [intOf]; omega))
      · have hqb : ((nameOf (j + 1)).toList == l0.toList) = false := beq_eq_false_iff_ne.2 (fun h => hq (by
          rw [Go.ByteArray.toList_eq, Go.ByteArray.toList_eq] at h
          generalize nameOf (j + 1) = nm at h
          cases nm; cases l0
          congr 1
          exact Array.ext' h))
        have hup : kindUp l0 (j + 1) = kindUp l0 j := by rw [kindUp, if_neg hq]
        go_wp2_with (fail)
        go_region_with (fail)
        all_goals go_wp2_with (fail)
        all_goals (go_roundw; (case rel => exact ⟨j + 1, by omega, rfl, ⟨by rw [hup]; repeat (first | exact HQj.out | apply PX_drew)⟩, ⟨HNj.out⟩⟩); (case measure => simp [intOf]; omega))
    · obtain rfl : j = 11 := by omega
      rw [HK.out] at HQj
      have HQ4 := Aside0.mk (show PX w gw g csw #[.int .i64 3, .int .i64 0, .int .i64 0, .int .i64 0, .int .i64 0, .string ⟨#[]⟩, .int .i64 0, .int .i64 0, .string ⟨#[]⟩] wr from HQj.out)
      have HQ0 := Aside0.mk (PX_alloc HQ4.out (.cells #[.int .i64 0, .int .i64 3, .int .i64 3, .int .i64 2, .int .i64 2, .int .i64 3, .int .i64 5, .int .i64 3, .int .i64 3, .int .i64 5, .int .i64 4, .int .i64 4] 3 (0, 0)))
      have HN5 := Aside0.mk (heap_alloc_new wr (.cells #[.int .i64 0, .int .i64 3, .int .i64 3, .int .i64 2, .int .i64 2, .int .i64 3, .int .i64 5, .int .i64 3, .int .i64 3, .int .i64 5, .int .i64 4, .int .i64 4] 3 (0, 0)))
      generalize hw6 : wr.alloc (.cells #[.int .i64 0, .int .i64 3, .int .i64 3, .int .i64 2, .int .i64 2, .int .i64 3, .int .i64 5, .int .i64 3, .int .i64 3, .int .i64 5, .int .i64 4, .int .i64 4] 3 (0, 0)) = v0 at HQ0 HN5
      clear HQj HQ4 HNj hw0
      obtain ⟨k0, k1, k2, k3, k4, k5, k6, k7, k8⟩ := cells9 HQ0.out.e
      have hn := cell_of HN5.out (j := 3) rfl
      have hwj := cell_of HQ0.out.w (HCw.out 1 _ rfl)
      go_wp2_with (fail)
      (with_reducible refine (squelchref30_number.calls K2 w1d a _ Ja.out).mono ?_)
      rintro r v1 ⟨rfl, hd⟩
      have HQ1 := Aside0.mk (show PX w gw g csw #[.int .i64 3, .int .i64 0, .int .i64 0, .int .i64 0, .int .i64 0, .string ⟨#[]⟩, .int .i64 0, .int .i64 0, .string ⟨#[]⟩] v1 from PX_below HQ0.out hd.below)
      clear HQ0 hd hwj hn hw6 HN5 k0 k1 k2 k3 k4 k5 k6 k7 k8
      obtain ⟨k0, k1, k2, k3, k4, k5, k6, k7, k8⟩ := cells9 HQ1.out.e
      have f1 := Lib.frozen_of_heap HQ1.out.e 1
      go_wp2_with (fail)
      (with_reducible refine (squelchref30_Right.calls K3 3 a 0 0 0 ⟨#[]⟩ 0 0 ⟨#[]⟩ rb _ HR.out).mono ?_)
      rintro r v2 ⟨rfl, hd⟩
      have HQ2 : Aside0 (PX w gw g csw #[.int .i64 3, .int .i64 a, .int .i64 0, .int .i64 0, .int .i64 0, .string ⟨#[]⟩, .int .i64 0, .int .i64 0, .string ⟨#[]⟩] v2) := by
        refine ⟨PX_to' hd ?_⟩
        apply Exists.intro
        apply And.intro
        · repeat (first | exact HQ1.out | apply PX_set | apply PX_drewN | apply PX_drew)
        · rfl
      clear HQ1 hd k0 k1 k2 k3 k4 k5 k6 k7 k8
      obtain ⟨k0, k1, k2, k3, k4, k5, k6, k7, k8⟩ := cells9 HQ2.out.e
      cases rb with
      | false =>
        obtain ⟨rfl, rfl⟩ := (show o = rV 0 0 0 0 0 ⟨#[]⟩ 0 0 ⟨#[]⟩ ∧ ok = false from HO.out.elim (fun h => absurd (And.intro h.1 h.2.1) (fun h => Bool.false_ne_true h.1)) (fun h => h.2))
        obtain ⟨i0, i1, i2, i3, i4, i5, i6, i7, i8⟩ := cells9 HQ2.out.r
        have f0 := Lib.frozen_of_heap HQ2.out.r 0
        have f1 := Lib.frozen_of_heap HQ2.out.r 1
        have f2 := Lib.frozen_of_heap HQ2.out.r 2
        have f3 := Lib.frozen_of_heap HQ2.out.r 3
        have f4 := Lib.frozen_of_heap HQ2.out.r 4
        have f5 := Lib.frozen_of_heap HQ2.out.r 5
        have f6 := Lib.frozen_of_heap HQ2.out.r 6
        have f7 := Lib.frozen_of_heap HQ2.out.r 7
        have f8 := Lib.frozen_of_heap HQ2.out.r 8
        go_wp2_with (fail)
        refine bodyPost_ret (results_ct rfl _ _ w.heap.size 31 #[.int .i64 0, .int .i64 0, .int .i64 0, .int .i64 0, .int .i64 0, .string ⟨#[]⟩, .int .i64 0, .int .i64 0, .string ⟨#[]⟩] (0, 0) _ rfl ?hc Tryz.underlying31 rfl (by kernel_rfl)) rfl ?_
        case hc => exact nine_set HQ2.out.r
        exact ⟨rfl, below_sets9 HQ2.out.b (Nat.le_refl _) _ _ _ _ _ _ _ _ _⟩
      | true =>
        go_wp2_with (fail)
        (with_reducible refine (squelchref30_Print.calls 3 a 0 0 0 ⟨#[]⟩ 0 0 ⟨#[]⟩ p _ (HP.out (by first | rfl | trivial))).mono ?_)
        rintro r v3 ⟨rfl, hd⟩
        have HQ3 := Aside0.mk (PX_below HQ2.out hd)
        clear HQ2 hd k0 k1 k2 k3 k4 k5 k6 k7 k8
        obtain ⟨k0, k1, k2, k3, k4, k5, k6, k7, k8⟩ := cells9 HQ3.out.e
        by_cases hq : p = s
        · obtain ⟨rfl, rfl⟩ := (show o = rV 3 a 0 0 0 ⟨#[]⟩ 0 0 ⟨#[]⟩ ∧ ok = true from HO.out.elim (fun h => h.2.2) (fun h => absurd hq (fun e => h.1 ⟨by first | rfl | trivial, e⟩)))
          subst hq
          obtain ⟨i0, i1, i2, i3, i4, i5, i6, i7, i8⟩ := cells9 HQ3.out.r
          have f0 := Lib.frozen_of_heap HQ3.out.r 0
          have f1 := Lib.frozen_of_heap HQ3.out.r 1
          have f2 := Lib.frozen_of_heap HQ3.out.r 2
          have f3 := Lib.frozen_of_heap HQ3.out.r 3
          have f4 := Lib.frozen_of_heap HQ3.out.r 4
          have f5 := Lib.frozen_of_heap HQ3.out.r 5
          have f6 := Lib.frozen_of_heap HQ3.out.r 6
          have f7 := Lib.frozen_of_heap HQ3.out.r 7
          have f8 := Lib.frozen_of_heap HQ3.out.r 8
          go_wp2_with (fail)
          refine bodyPost_ret (results_ct rfl _ _ w.heap.size 31 #[.int .i64 3, .int .i64 a, .int .i64 0, .int .i64 0, .int .i64 0, .string ⟨#[]⟩, .int .i64 0, .int .i64 0, .string ⟨#[]⟩] (0, 0) _ rfl ?hc Tryz.underlying31 rfl (by kernel_rfl)) rfl ?_
          case hc => exact nine_set HQ3.out.r
          exact ⟨rfl, below_sets9 HQ3.out.b (Nat.le_refl _) _ _ _ _ _ _ _ _ _⟩
        · have hne : (p.toList == s.toList) = false := toList_ne hq
          obtain ⟨rfl, rfl⟩ := (show o = rV 0 0 0 0 0 ⟨#[]⟩ 0 0 ⟨#[]⟩ ∧ ok = false from HO.out.elim (fun h => absurd (And.intro h.1 h.2.1) (fun h => hq h.2)) (fun h => h.2))
          obtain ⟨i0, i1, i2, i3, i4, i5, i6, i7, i8⟩ := cells9 HQ3.out.r
          have f0 := Lib.frozen_of_heap HQ3.out.r 0
          have f1 := Lib.frozen_of_heap HQ3.out.r 1
          have f2 := Lib.frozen_of_heap HQ3.out.r 2
          have f3 := Lib.frozen_of_heap HQ3.out.r 3
          have f4 := Lib.frozen_of_heap HQ3.out.r 4
          have f5 := Lib.frozen_of_heap HQ3.out.r 5
          have f6 := Lib.frozen_of_heap HQ3.out.r 6
          have f7 := Lib.frozen_of_heap HQ3.out.r 7
          have f8 := Lib.frozen_of_heap HQ3.out.r 8
          go_wp2_with (fail)
          refine bodyPost_ret (results_ct rfl _ _ w.heap.size 31 #[.int .i64 0, .int .i64 0, .int .i64 0, .int .i64 0, .int .i64 0, .string ⟨#[]⟩, .int .i64 0, .int .i64 0, .string ⟨#[]⟩] (0, 0) _ rfl ?hc Tryz.underlying31 rfl (by kernel_rfl)) rfl ?_
          case hc => exact nine_set HQ3.out.r
          exact ⟨rfl, below_sets9 HQ3.out.b (Nat.le_refl _) _ _ _ _ _ _ _ _ _⟩
end Go.Proofs.YtndgaeldndgioaaGreatDoor.QAll
end

section
/- squelchref30.Parse, walked by hand: a line of kind 4. -/
set_option linter.unusedVariables false
set_option linter.unusedSimpArgs false
namespace Go.Proofs.YtndgaeldndgioaaGreatDoor.QAll
open Go.RowKit Go.Proofs.YtndgaeldndgioaaGreatDoorW.PrintWords Go.Proofs.YtndgaeldndgioaaGreatDoorW.PrintLast Go.Proofs.YtndgaeldndgioaaGreatDoorW.PrintMore
set_option maxHeartbeats 16000000 in
set_option maxRecDepth 100000 in
theorem rparse4 (s l0 w1d : ByteArray) (K1 K2 K3 K4 : Nat) (d : ByteArray) (rb : Bool) (p : ByteArray) (o : Value) (ok : Bool) (w : World) (ho : (rb = true ∧ p = s ∧ o = rV 4 0 0 0 0 ⟨#[]⟩ 0 0 d ∧ ok = true) ∨ (¬ (rb = true ∧ p = s) ∧ o = rV 0 0 0 0 0 ⟨#[]⟩ 0 0 ⟨#[]⟩ ∧ ok = false)) (hw : squelchref30_words.f K1 s = some [l0, w1d]) (hk : kindUp l0 11 = 4) (hd : squelchref30_bytes.f K4 w1d false = some d)
    (hr : squelchref30_Right.f K3 4 0 0 0 0 ⟨#[]⟩ 0 0 d = some rb) (hp : rb = true → squelchref30_Print.f 4 0 0 0 0 ⟨#[]⟩ 0 0 d = some p) :
    Calls Tryz.prog 8 #[.string s] w fun r w' => r = .returned (.tuple #[o, .bool ok]) ∧ Below w.heap.size w w' := by
  have HO := Aside0.mk ho
  clear ho
  have HW := Aside0.mk hw
  have HK := Aside0.mk hk
  have HR := Aside0.mk hr
  have HP := Aside0.mk hp
  have Jd := Aside0.mk hd
  clear hw hk hr hp hd
  go_enter Tryz.func8, Tryz.ntmps8
  go_wp2_with (fail)
  (with_reducible refine (words_at K1 s _ _ HW.out (by simp)).mono ?_)
  rintro e w2 ⟨⟨gw, cw, csw, rfl, hgw, hbw, hcw⟩, hb2⟩
  have HB2 := Aside0.mk (below_step ((Below.refl w.heap.size w).alloc (Nat.le_refl _) _) hb2)
  have HX2 := Aside0.mk ((hb2.block w.heap.size (by simp)).trans (heap_alloc_new w _))
  have HWb := Aside0.mk hbw
  have HCw := Aside0.mk hcw
  have hgw' : w.heap.size < gw := Nat.lt_of_lt_of_le (by simp) hgw
  have hlt2 : gw < w2.heap.size := lt_of_some hbw
  clear hb2 hbw hcw hgw
  have HQ := Aside0.mk (show PX w gw w2.heap.size csw #[.int .i64 0, .int .i64 0, .int .i64 0, .int .i64 0, .int .i64 0, .string ⟨#[]⟩, .int .i64 0, .int .i64 0, .string ⟨#[]⟩] (w2.alloc (.cells #[.int .i64 0, .int .i64 0, .int .i64 0, .int .i64 0, .int .i64 0, .string ⟨#[]⟩, .int .i64 0, .int .i64 0, .string ⟨#[]⟩] 31 (0, 0))) from ⟨below_alloc HB2.out _, (Below.heap_alloc _ _ _ (Nat.lt_trans hgw' hlt2)).trans HX2.out, (Below.heap_alloc _ _ _ hlt2).trans HWb.out, heap_alloc_new _ _, hgw', hlt2⟩)
  clear HB2 HX2 HWb
  go_wp2_with (fail)
  (with_reducible refine (names_bl _).mono ?_)
  rintro e w3 ⟨⟨gn, cn, csn, rfl, hgn, hbn, hcn⟩, hb3⟩
  have HQ3 := Aside0.mk (PX_below HQ.out hb3)
  have HNb := Aside0.mk hbn
  have HCn := Aside0.mk hcn
  have hgn' : w2.heap.size < gn := Nat.lt_of_lt_of_le (by simp) hgn
  clear hb3 HQ hbn hcn hgn
  generalize w2.heap.size = g at HQ3 hgn' hlt2 ⊢
  go_wp2_with (fail)
  go_loopw [7] (fun v7 wr => ∃ (j : Nat), j ≤ 11 ∧ v7 = .int .i64 ((j : Int) + 1) ∧ Aside0 (PX w gw g csw #[.int .i64 (kindUp l0 j : Int), .int .i64 0, .int .i64 0, .int .i64 0, .int .i64 0, .string ⟨#[]⟩, .int .i64 0, .int .i64 0, .string ⟨#[]⟩] wr) ∧ Aside0 (wr.heap[gn]? = some (.cells csn 9 (0, 0)))) (fun v7 _ => 12 - (intOf v7).toNat)
  case atStart => exact ⟨0, by omega, rfl, HQ3, HNb⟩
  case round =>
    obtain ⟨j, hj, rfl, HQj, HNj⟩ := hrel
    clear HQ3 HNb
    have hw0 := cell_of HQj.out.w (HCw.out 0 l0 rfl)
    by_cases hlt : j < 11
    · have hn0 := cell_of HNj.out (HCn.out (j + 1) (nameOf (j + 1)) (by unfold nameOf; rw [List.getD_eq_getElem?_getD, List.getElem?_eq_getElem (show j + 1 < namesL.length by show j + 1 < 12; omega)]; rfl))
      have hj0 : (0 ≤ (j : Int) + 1) = True := eq_true (by omega)
      have hj1 : ((j : Int) + 1 < 12) = True := eq_true (by omega)
      by_cases hq : nameOf (j + 1) = l0
      · have hqb : ((nameOf (j + 1)).toList == l0.toList) = true := by rw [hq]; exact beq_self_eq_true _
        have hup : kindUp l0 (j + 1) = j + 1 := by rw [kindUp, if_pos hq]
        have he0 := cell_of HQj.out.e (j := 0) rfl
        have hf0 := Lib.frozen_of_heap HQj.out.e 0
        go_wp2_with (fail)
        go_region_with (fail)
        all_goals go_wp2_with (fail)
        all_goals (go_roundw; (case rel => exact ⟨j + 1, by omega, rfl, ⟨by rw [hup]; repeat (first | exact PX_set HQj.out 0 _ | apply PX_drew)⟩, ⟨(set_ne HNj.out (show ¬ g = gn by omega) 0 _)⟩⟩); (case measure => simp [intOf]; omega))
      · have hqb : ((nameOf (j + 1)).toList == l0.toList) = false := beq_eq_false_iff_ne.2 (fun h => hq (by
          rw [Go.ByteArray.toList_eq, Go.ByteArray.toList_eq] at h
          generalize nameOf (j + 1) = nm at h
          cases nm; cases l0
          congr 1
          exact Array.ext' h))
        have hup : kindUp l0 (j + 1) = kindUp l0 j := by rw [kindUp, if_neg hq]
        go_wp2_with (fail)
        go_region_with (fail)
        all_goals go_wp2_with (fail)
        all_goals (go_roundw; (case rel => exact ⟨j + 1, by omega, rfl, ⟨by rw [hup]; repeat (first | exact HQj.out | apply PX_drew)⟩, ⟨HNj.out⟩⟩); (case measure => simp [intOf]; omega))
    · obtain rfl : j = 11 := by omega
      rw [HK.out] at HQj
      have HQ4 := Aside0.mk (show PX w gw g csw #[.int .i64 4, .int .i64 0, .int .i64 0, .int .i64 0, .int .i64 0, .string ⟨#[]⟩, .int .i64 0, .int .i64 0, .string ⟨#[]⟩] wr from HQj.out)
      have HQ0 := Aside0.mk (PX_alloc HQ4.out (.cells #[.int .i64 0, .int .i64 3, .int .i64 3, .int .i64 2, .int .i64 2, .int .i64 3, .int .i64 5, .int .i64 3, .int .i64 3, .int .i64 5, .int .i64 4, .int .i64 4] 3 (0, 0)))
      have HN5 := Aside0.mk (heap_alloc_new wr (.cells #[.int .i64 0, .int .i64 3, .int .i64 3, .int .i64 2, .int .i64 2, .int .i64 3, .int .i64 5, .int .i64 3, .int .i64 3, .int .i64 5, .int .i64 4, .int .i64 4] 3 (0, 0)))
      generalize hw6 : wr.alloc (.cells #[.int .i64 0, .int .i64 3, .int .i64 3, .int .i64 2, .int .i64 2, .int .i64 3, .int .i64 5, .int .i64 3, .int .i64 3, .int .i64 5, .int .i64 4, .int .i64 4] 3 (0, 0)) = v0 at HQ0 HN5
      clear HQj HQ4 HNj hw0
      obtain ⟨k0, k1, k2, k3, k4, k5, k6, k7, k8⟩ := cells9 HQ0.out.e
      have hn := cell_of HN5.out (j := 4) rfl
      have hwj := cell_of HQ0.out.w (HCw.out 1 _ rfl)
      go_wp2_with (fail)
      (with_reducible refine (squelchref30_bytes.calls K4 w1d false d _ Jd.out).mono ?_)
      rintro r v1 ⟨rfl, hd⟩
      have HQ1 := Aside0.mk (show PX w gw g csw #[.int .i64 4, .int .i64 0, .int .i64 0, .int .i64 0, .int .i64 0, .string ⟨#[]⟩, .int .i64 0, .int .i64 0, .string ⟨#[]⟩] v1 from PX_below HQ0.out hd)
      clear HQ0 hd hwj hn hw6 HN5 k0 k1 k2 k3 k4 k5 k6 k7 k8
      obtain ⟨k0, k1, k2, k3, k4, k5, k6, k7, k8⟩ := cells9 HQ1.out.e
      have f8 := Lib.frozen_of_heap HQ1.out.e 8
      go_wp2_with (fail)
      (with_reducible refine (squelchref30_Right.calls K3 4 0 0 0 0 ⟨#[]⟩ 0 0 d rb _ HR.out).mono ?_)
      rintro r v2 ⟨rfl, hd⟩
      have HQ2 : Aside0 (PX w gw g csw #[.int .i64 4, .int .i64 0, .int .i64 0, .int .i64 0, .int .i64 0, .string ⟨#[]⟩, .int .i64 0, .int .i64 0, .string d] v2) := by
        refine ⟨PX_to' hd ?_⟩
        apply Exists.intro
        apply And.intro
        · repeat (first | exact HQ1.out | apply PX_set | apply PX_drewN | apply PX_drew)
        · rfl
      clear HQ1 hd k0 k1 k2 k3 k4 k5 k6 k7 k8
      obtain ⟨k0, k1, k2, k3, k4, k5, k6, k7, k8⟩ := cells9 HQ2.out.e
      cases rb with
      | false =>
        obtain ⟨rfl, rfl⟩ := (show o = rV 0 0 0 0 0 ⟨#[]⟩ 0 0 ⟨#[]⟩ ∧ ok = false from HO.out.elim (fun h => absurd (And.intro h.1 h.2.1) (fun h => Bool.false_ne_true h.1)) (fun h => h.2))
        obtain ⟨i0, i1, i2, i3, i4, i5, i6, i7, i8⟩ := cells9 HQ2.out.r
        have f0 := Lib.frozen_of_heap HQ2.out.r 0
        have f1 := Lib.frozen_of_heap HQ2.out.r 1
        have f2 := Lib.frozen_of_heap HQ2.out.r 2
        have f3 := Lib.frozen_of_heap HQ2.out.r 3
        have f4 := Lib.frozen_of_heap HQ2.out.r 4
        have f5 := Lib.frozen_of_heap HQ2.out.r 5
        have f6 := Lib.frozen_of_heap HQ2.out.r 6
        have f7 := Lib.frozen_of_heap HQ2.out.r 7
        have f8 := Lib.frozen_of_heap HQ2.out.r 8
        go_wp2_with (fail)
        refine bodyPost_ret (results_ct rfl _ _ w.heap.size 31 #[.int .i64 0, .int .i64 0, .int .i64 0, .int .i64 0, .int .i64 0, .string ⟨#[]⟩, .int .i64 0, .int .i64 0, .string ⟨#[]⟩] (0, 0) _ rfl ?hc Tryz.underlying31 rfl (by kernel_rfl)) rfl ?_
        case hc => exact nine_set HQ2.out.r
        exact ⟨rfl, below_sets9 HQ2.out.b (Nat.le_refl _) _ _ _ _ _ _ _ _ _⟩
      | true =>
        go_wp2_with (fail)
        (with_reducible refine (squelchref30_Print.calls 4 0 0 0 0 ⟨#[]⟩ 0 0 d p _ (HP.out (by first | rfl | trivial))).mono ?_)
        rintro r v3 ⟨rfl, hd⟩
        have HQ3 := Aside0.mk (PX_below HQ2.out hd)
        clear HQ2 hd k0 k1 k2 k3 k4 k5 k6 k7 k8
        obtain ⟨k0, k1, k2, k3, k4, k5, k6, k7, k8⟩ := cells9 HQ3.out.e
        by_cases hq : p = s
        · obtain ⟨rfl, rfl⟩ := (show o = rV 4 0 0 0 0 ⟨#[]⟩ 0 0 d ∧ ok = true from HO.out.elim (fun h => h.2.2) (fun h => absurd hq (fun e => h.1 ⟨by first | rfl | trivial, e⟩)))
          subst hq
          obtain ⟨i0, i1, i2, i3, i4, i5, i6, i7, i8⟩ := cells9 HQ3.out.r
          have f0 := Lib.frozen_of_heap HQ3.out.r 0
          have f1 := Lib.frozen_of_heap HQ3.out.r 1
          have f2 := Lib.frozen_of_heap HQ3.out.r 2
          have f3 := Lib.frozen_of_heap HQ3.out.r 3
          have f4 := Lib.frozen_of_heap HQ3.out.r 4
          have f5 := Lib.frozen_of_heap HQ3.out.r 5
          have f6 := Lib.frozen_of_heap HQ3.out.r 6
          have f7 := Lib.frozen_of_heap HQ3.out.r 7
          have f8 := Lib.frozen_of_heap HQ3.out.r 8
          go_wp2_with (fail)
          refine bodyPost_ret (results_ct rfl _ _ w.heap.size 31 #[.int .i64 4, .int .i64 0, .int .i64 0, .int .i64 0, .int .i64 0, .string ⟨#[]⟩, .int .i64 0, .int .i64 0, .string d] (0, 0) _ rfl ?hc Tryz.underlying31 rfl (by kernel_rfl)) rfl ?_
          case hc => exact nine_set HQ3.out.r
          exact ⟨rfl, below_sets9 HQ3.out.b (Nat.le_refl _) _ _ _ _ _ _ _ _ _⟩
        · have hne : (p.toList == s.toList) = false := toList_ne hq
          obtain ⟨rfl, rfl⟩ := (show o = rV 0 0 0 0 0 ⟨#[]⟩ 0 0 ⟨#[]⟩ ∧ ok = false from HO.out.elim (fun h => absurd (And.intro h.1 h.2.1) (fun h => hq h.2)) (fun h => h.2))
          obtain ⟨i0, i1, i2, i3, i4, i5, i6, i7, i8⟩ := cells9 HQ3.out.r
          have f0 := Lib.frozen_of_heap HQ3.out.r 0
          have f1 := Lib.frozen_of_heap HQ3.out.r 1
          have f2 := Lib.frozen_of_heap HQ3.out.r 2
          have f3 := Lib.frozen_of_heap HQ3.out.r 3
          have f4 := Lib.frozen_of_heap HQ3.out.r 4
          have f5 := Lib.frozen_of_heap HQ3.out.r 5
          have f6 := Lib.frozen_of_heap HQ3.out.r 6
          have f7 := Lib.frozen_of_heap HQ3.out.r 7
          have f8 := Lib.frozen_of_heap HQ3.out.r 8
          go_wp2_with (fail)
          refine bodyPost_ret (results_ct rfl _ _ w.heap.size 31 #[.int .i64 0, .int .i64 0, .int .i64 0, .int .i64 0, .int .i64 0, .string ⟨#[]⟩, .int .i64 0, .int .i64 0, .string ⟨#[]⟩] (0, 0) _ rfl ?hc Tryz.underlying31 rfl (by kernel_rfl)) rfl ?_
          case hc => exact nine_set HQ3.out.r
          exact ⟨rfl, below_sets9 HQ3.out.b (Nat.le_refl _) _ _ _ _ _ _ _ _ _⟩
end Go.Proofs.YtndgaeldndgioaaGreatDoor.QAll
end

section
/- squelchref30.Parse, walked by hand: a line of kind 5. -/
set_option linter.unusedVariables false
set_option linter.unusedSimpArgs false
namespace Go.Proofs.YtndgaeldndgioaaGreatDoor.QAll
open Go.RowKit Go.Proofs.YtndgaeldndgioaaGreatDoorW.PrintWords Go.Proofs.YtndgaeldndgioaaGreatDoorW.PrintLast Go.Proofs.YtndgaeldndgioaaGreatDoorW.PrintMore
set_option maxHeartbeats 16000000 in
set_option maxRecDepth 100000 in
theorem rparse5 (s l0 w1d w2d : ByteArray) (K1 K2 K3 K4 : Nat) (a : Int) (b : Int) (rb : Bool) (p : ByteArray) (o : Value) (ok : Bool) (w : World) (ho : (rb = true ∧ p = s ∧ o = rV 5 a b 0 0 ⟨#[]⟩ 0 0 ⟨#[]⟩ ∧ ok = true) ∨ (¬ (rb = true ∧ p = s) ∧ o = rV 0 0 0 0 0 ⟨#[]⟩ 0 0 ⟨#[]⟩ ∧ ok = false)) (hw : squelchref30_words.f K1 s = some [l0, w1d, w2d]) (hk : kindUp l0 11 = 5) (ha : squelchref30_number.f K2 w1d = some a) (hb : squelchref30_number.f K2 w2d = some b)
    (hr : squelchref30_Right.f K3 5 a b 0 0 ⟨#[]⟩ 0 0 ⟨#[]⟩ = some rb) (hp : rb = true → squelchref30_Print.f 5 a b 0 0 ⟨#[]⟩ 0 0 ⟨#[]⟩ = some p) :
    Calls Tryz.prog 8 #[.string s] w fun r w' => r = .returned (.tuple #[o, .bool ok]) ∧ Below w.heap.size w w' := by
  have HO := Aside0.mk ho
  clear ho
  have HW := Aside0.mk hw
  have HK := Aside0.mk hk
  have HR := Aside0.mk hr
  have HP := Aside0.mk hp
  have Ja := Aside0.mk ha
  have Jb := Aside0.mk hb
  clear hw hk hr hp ha hb
  go_enter Tryz.func8, Tryz.ntmps8
  go_wp2_with (fail)
  (with_reducible refine (words_at K1 s _ _ HW.out (by simp)).mono ?_)
  rintro e w2 ⟨⟨gw, cw, csw, rfl, hgw, hbw, hcw⟩, hb2⟩
  have HB2 := Aside0.mk (below_step ((Below.refl w.heap.size w).alloc (Nat.le_refl _) _) hb2)
  have HX2 := Aside0.mk ((hb2.block w.heap.size (by simp)).trans (heap_alloc_new w _))
  have HWb := Aside0.mk hbw
  have HCw := Aside0.mk hcw
  have hgw' : w.heap.size < gw := Nat.lt_of_lt_of_le (by simp) hgw
  have hlt2 : gw < w2.heap.size := lt_of_some hbw
  clear hb2 hbw hcw hgw
  have HQ := Aside0.mk (show PX w gw w2.heap.size csw #[.int .i64 0, .int .i64 0, .int .i64 0, .int .i64 0, .int .i64 0, .string ⟨#[]⟩, .int .i64 0, .int .i64 0, .string ⟨#[]⟩] (w2.alloc (.cells #[.int .i64 0, .int .i64 0, .int .i64 0, .int .i64 0, .int .i64 0, .string ⟨#[]⟩, .int .i64 0, .int .i64 0, .string ⟨#[]⟩] 31 (0, 0))) from ⟨below_alloc HB2.out _, (Below.heap_alloc _ _ _ (Nat.lt_trans hgw' hlt2)).trans HX2.out, (Below.heap_alloc _ _ _ hlt2).trans HWb.out, heap_alloc_new _ _, hgw', hlt2⟩)
  clear HB2 HX2 HWb
  go_wp2_with (fail)
  (with_reducible refine (names_bl _).mono ?_)
  rintro e w3 ⟨⟨gn, cn, csn, rfl, hgn, hbn, hcn⟩, hb3⟩
  have HQ3 := Aside0.mk (PX_below HQ.out hb3)
  have HNb := Aside0.mk hbn
  have HCn := Aside0.mk hcn
  have hgn' : w2.heap.size < gn := Nat.lt_of_lt_of_le (by simp) hgn
  clear hb3 HQ hbn hcn hgn
  generalize w2.heap.size = g at HQ3 hgn' hlt2 ⊢
  go_wp2_with (fail)
  go_loopw [7] (fun v7 wr => ∃ (j : Nat), j ≤ 11 ∧ v7 = .int .i64 ((j : Int) + 1) ∧ Aside0 (PX w gw g csw #[.int .i64 (kindUp l0 j : Int), .int .i64 0, .int .i64 0, .int .i64 0, .int .i64 0, .string ⟨#[]⟩, .int .i64 0, .int .i64 0, .string ⟨#[]⟩] wr) ∧ Aside0 (wr.heap[gn]? = some (.cells csn 9 (0, 0)))) (fun v7 _ => 12 - (intOf v7).toNat)
  case atStart => exact ⟨0, by omega, rfl, HQ3, HNb⟩
  case round =>
    obtain ⟨j, hj, rfl, HQj, HNj⟩ := hrel
    clear HQ3 HNb
    have hw0 := cell_of HQj.out.w (HCw.out 0 l0 rfl)
    by_cases hlt : j < 11
    · have hn0 := cell_of HNj.out (HCn.out (j + 1) (nameOf (j + 1)) (by unfold nameOf; rw [List.getD_eq_getElem?_getD, List.getElem?_eq_getElem (show j + 1 < namesL.length by show j + 1 < 12; omega)]; rfl))
      have hj0 : (0 ≤ (j : Int) + 1) = True := eq_true (by omega)
      have hj1 : ((j : Int) + 1 < 12) = True := eq_true (by omega)
      by_cases hq : nameOf (j + 1) = l0
      · have hqb : ((nameOf (j + 1)).toList == l0.toList) = true := by rw [hq]; exact beq_self_eq_true _
        have hup : kindUp l0 (j + 1) = j + 1 := by rw [kindUp, if_pos hq]
        have he0 := cell_of HQj.out.e (j := 0) rfl
        have hf0 := Lib.frozen_of_heap HQj.out.e 0
        go_wp2_with (fail)
        go_region_with (fail)
        all_goals go_wp2_with (fail)
        all_goals (go_roundw; (case rel => exact ⟨j + 1, by omega, rfl, ⟨by rw [hup]; repeat (first | exact PX_set HQj.out 0 _ | apply PX_drew)⟩, ⟨(set_ne HNj.out (show ¬ g = gn by omega) 0 _)⟩⟩); (case measure => simp [intOf]; omega))
      · have hqb : ((nameOf (j + 1)).toList == l0.toList) = false := beq_eq_false_iff_ne.2 (fun h => hq (by
          rw [Go.ByteArray.toList_eq, Go.ByteArray.toList_eq] at h
          generalize nameOf (j + 1) = nm at h
          cases nm; cases l0
          congr 1
          exact Array.ext' h))
        have hup : kindUp l0 (j + 1) = kindUp l0 j := by rw [kindUp, if_neg hq]
        go_wp2_with (fail)
        go_region_with (fail)
        all_goals go_wp2_with (fail)
        all_goals (go_roundw; (case rel => exact ⟨j + 1, by omega, rfl, ⟨by rw [hup]; repeat (first | exact HQj.out | apply PX_drew)⟩, ⟨HNj.out⟩⟩); (case measure => simp [intOf]; omega))
    · obtain rfl : j = 11 := by omega
      rw [HK.out] at HQj
      have HQ4 := Aside0.mk (show PX w gw g csw #[.int .i64 5, .int .i64 0, .int .i64 0, .int .i64 0, .int .i64 0, .string ⟨#[]⟩, .int .i64 0, .int .i64 0, .string ⟨#[]⟩] wr from HQj.out)
      have HQ0 := Aside0.mk (PX_alloc HQ4.out (.cells #[.int .i64 0, .int .i64 3, .int .i64 3, .int .i64 2, .int .i64 2, .int .i64 3, .int .i64 5, .int .i64 3, .int .i64 3, .int .i64 5, .int .i64 4, .int .i64 4] 3 (0, 0)))
      have HN5 := Aside0.mk (heap_alloc_new wr (.cells #[.int .i64 0, .int .i64 3, .int .i64 3, .int .i64 2, .int .i64 2, .int .i64 3, .int .i64 5, .int .i64 3, .int .i64 3, .int .i64 5, .int .i64 4, .int .i64 4] 3 (0, 0)))
      generalize hw6 : wr.alloc (.cells #[.int .i64 0, .int .i64 3, .int .i64 3, .int .i64 2, .int .i64 2, .int .i64 3, .int .i64 5, .int .i64 3, .int .i64 3, .int .i64 5, .int .i64 4, .int .i64 4] 3 (0, 0)) = v0 at HQ0 HN5
      clear HQj HQ4 HNj hw0
      obtain ⟨k0, k1, k2, k3, k4, k5, k6, k7, k8⟩ := cells9 HQ0.out.e
      have hn := cell_of HN5.out (j := 5) rfl
      have hwj := cell_of HQ0.out.w (HCw.out 1 _ rfl)
      go_wp2_with (fail)
      (with_reducible refine (squelchref30_number.calls K2 w1d a _ Ja.out).mono ?_)
      rintro r v1 ⟨rfl, hd⟩
      have HQ1 := Aside0.mk (show PX w gw g csw #[.int .i64 5, .int .i64 0, .int .i64 0, .int .i64 0, .int .i64 0, .string ⟨#[]⟩, .int .i64 0, .int .i64 0, .string ⟨#[]⟩] v1 from PX_below HQ0.out hd.below)
      clear HQ0 hd hwj hn hw6 HN5 k0 k1 k2 k3 k4 k5 k6 k7 k8
      obtain ⟨k0, k1, k2, k3, k4, k5, k6, k7, k8⟩ := cells9 HQ1.out.e
      have hwj := cell_of HQ1.out.w (HCw.out 2 _ rfl)
      have f1 := Lib.frozen_of_heap HQ1.out.e 1
      go_wp2_with (fail)
      (with_reducible refine (squelchref30_number.calls K2 w2d b _ Jb.out).mono ?_)
      rintro r v2 ⟨rfl, hd⟩
      have HQ2 := Aside0.mk (show PX w gw g csw #[.int .i64 5, .int .i64 a, .int .i64 0, .int .i64 0, .int .i64 0, .string ⟨#[]⟩, .int .i64 0, .int .i64 0, .string ⟨#[]⟩] v2 from PX_below (PX_set HQ1.out 1 (.int .i64 a)) hd.below)
      clear HQ1 hd hwj  k0 k1 k2 k3 k4 k5 k6 k7 k8 f1
      obtain ⟨k0, k1, k2, k3, k4, k5, k6, k7, k8⟩ := cells9 HQ2.out.e
      have f2 := Lib.frozen_of_heap HQ2.out.e 2
      go_wp2_with (fail)
      (with_reducible refine (squelchref30_Right.calls K3 5 a b 0 0 ⟨#[]⟩ 0 0 ⟨#[]⟩ rb _ HR.out).mono ?_)
      rintro r v3 ⟨rfl, hd⟩
      have HQ3 : Aside0 (PX w gw g csw #[.int .i64 5, .int .i64 a, .int .i64 b, .int .i64 0, .int .i64 0, .string ⟨#[]⟩, .int .i64 0, .int .i64 0, .string ⟨#[]⟩] v3) := by
        refine ⟨PX_to' hd ?_⟩
        apply Exists.intro
        apply And.intro
        · repeat (first | exact HQ2.out | apply PX_set | apply PX_drewN | apply PX_drew)
        · rfl
      clear HQ2 hd k0 k1 k2 k3 k4 k5 k6 k7 k8
      obtain ⟨k0, k1, k2, k3, k4, k5, k6, k7, k8⟩ := cells9 HQ3.out.e
      cases rb with
      | false =>
        obtain ⟨rfl, rfl⟩ := (show o = rV 0 0 0 0 0 ⟨#[]⟩ 0 0 ⟨#[]⟩ ∧ ok = false from HO.out.elim (fun h => absurd (And.intro h.1 h.2.1) (fun h => Bool.false_ne_true h.1)) (fun h => h.2))
        obtain ⟨i0, i1, i2, i3, i4, i5, i6, i7, i8⟩ := cells9 HQ3.out.r
        have f0 := Lib.frozen_of_heap HQ3.out.r 0
        have f1 := Lib.frozen_of_heap HQ3.out.r 1
        have f2 := Lib.frozen_of_heap HQ3.out.r 2
        have f3 := Lib.frozen_of_heap HQ3.out.r 3
        have f4 := Lib.frozen_of_heap HQ3.out.r 4
        have f5 := Lib.frozen_of_heap HQ3.out.r 5
        have f6 := Lib.frozen_of_heap HQ3.out.r 6
        have f7 := Lib.frozen_of_heap HQ3.out.r 7
        have f8 := Lib.frozen_of_heap HQ3.out.r 8
        go_wp2_with (fail)
        refine bodyPost_ret (results_ct rfl _ _ w.heap.size 31 #[.int .i64 0, .int .i64 0, .int .i64 0, .int .i64 0, .int .i64 0, .string ⟨#[]⟩, .int .i64 0, .int .i64 0, .string ⟨#[]⟩] (0, 0) _ rfl ?hc Tryz.underlying31 rfl (by kernel_rfl)) rfl ?_
        case hc => exact nine_set HQ3.out.r
        exact ⟨rfl, below_sets9 HQ3.out.b (Nat.le_refl _) _ _ _ _ _ _ _ _ _⟩
      | true =>
        go_wp2_with (fail)
        (with_reducible refine (squelchref30_Print.calls 5 a b 0 0 ⟨#[]⟩ 0 0 ⟨#[]⟩ p _ (HP.out (by first | rfl | trivial))).mono ?_)
        rintro r v4 ⟨rfl, hd⟩
        have HQ4 := Aside0.mk (PX_below HQ3.out hd)
        clear HQ3 hd k0 k1 k2 k3 k4 k5 k6 k7 k8
        obtain ⟨k0, k1, k2, k3, k4, k5, k6, k7, k8⟩ := cells9 HQ4.out.e
        by_cases hq : p = s
        · obtain ⟨rfl, rfl⟩ := (show o = rV 5 a b 0 0 ⟨#[]⟩ 0 0 ⟨#[]⟩ ∧ ok = true from HO.out.elim (fun h => h.2.2) (fun h => absurd hq (fun e => h.1 ⟨by first | rfl | trivial, e⟩)))
          subst hq
          obtain ⟨i0, i1, i2, i3, i4, i5, i6, i7, i8⟩ := cells9 HQ4.out.r
          have f0 := Lib.frozen_of_heap HQ4.out.r 0
          have f1 := Lib.frozen_of_heap HQ4.out.r 1
          have f2 := Lib.frozen_of_heap HQ4.out.r 2
          have f3 := Lib.frozen_of_heap HQ4.out.r 3
          have f4 := Lib.frozen_of_heap HQ4.out.r 4
          have f5 := Lib.frozen_of_heap HQ4.out.r 5
          have f6 := Lib.frozen_of_heap HQ4.out.r 6
          have f7 := Lib.frozen_of_heap HQ4.out.r 7
          have f8 := Lib.frozen_of_heap HQ4.out.r 8
          go_wp2_with (fail)
          refine bodyPost_ret (results_ct rfl _ _ w.heap.size 31 #[.int .i64 5, .int .i64 a, .int .i64 b, .int .i64 0, .int .i64 0, .string ⟨#[]⟩, .int .i64 0, .int .i64 0, .string ⟨#[]⟩] (0, 0) _ rfl ?hc Tryz.underlying31 rfl (by kernel_rfl)) rfl ?_
          case hc => exact nine_set HQ4.out.r
          exact ⟨rfl, below_sets9 HQ4.out.b (Nat.le_refl _) _ _ _ _ _ _ _ _ _⟩
        · have hne : (p.toList == s.toList) = false := toList_ne hq
          obtain ⟨rfl, rfl⟩ := (show o = rV 0 0 0 0 0 ⟨#[]⟩ 0 0 ⟨#[]⟩ ∧ ok = false from HO.out.elim (fun h => absurd (And.intro h.1 h.2.1) (fun h => hq h.2)) (fun h => h.2))
          obtain ⟨i0, i1, i2, i3, i4, i5, i6, i7, i8⟩ := cells9 HQ4.out.r
          have f0 := Lib.frozen_of_heap HQ4.out.r 0
          have f1 := Lib.frozen_of_heap HQ4.out.r 1
          have f2 := Lib.frozen_of_heap HQ4.out.r 2
          have f3 := Lib.frozen_of_heap HQ4.out.r 3
          have f4 := Lib.frozen_of_heap HQ4.out.r 4
          have f5 := Lib.frozen_of_heap HQ4.out.r 5
          have f6 := Lib.frozen_of_heap HQ4.out.r 6
          have f7 := Lib.frozen_of_heap HQ4.out.r 7
          have f8 := Lib.frozen_of_heap HQ4.out.r 8
          go_wp2_with (fail)
          refine bodyPost_ret (results_ct rfl _ _ w.heap.size 31 #[.int .i64 0, .int .i64 0, .int .i64 0, .int .i64 0, .int .i64 0, .string ⟨#[]⟩, .int .i64 0, .int .i64 0, .string ⟨#[]⟩] (0, 0) _ rfl ?hc Tryz.underlying31 rfl (by kernel_rfl)) rfl ?_
          case hc => exact nine_set HQ4.out.r
          exact ⟨rfl, below_sets9 HQ4.out.b (Nat.le_refl _) _ _ _ _ _ _ _ _ _⟩
end Go.Proofs.YtndgaeldndgioaaGreatDoor.QAll
end

section
/- squelchref30.Parse, walked by hand: a line of kind 6. -/
set_option linter.unusedVariables false
set_option linter.unusedSimpArgs false
namespace Go.Proofs.YtndgaeldndgioaaGreatDoor.QAll
open Go.RowKit Go.Proofs.YtndgaeldndgioaaGreatDoorW.PrintWords Go.Proofs.YtndgaeldndgioaaGreatDoorW.PrintLast Go.Proofs.YtndgaeldndgioaaGreatDoorW.PrintMore
set_option maxHeartbeats 16000000 in
set_option maxRecDepth 100000 in
theorem rparse6 (s l0 w1d w2d w3d w4d : ByteArray) (K1 K2 K3 K4 : Nat) (a : Int) (b : Int) (n : Int) (m : Int) (rb : Bool) (p : ByteArray) (o : Value) (ok : Bool) (w : World) (ho : (rb = true ∧ p = s ∧ o = rV 6 a b n m ⟨#[]⟩ 0 0 ⟨#[]⟩ ∧ ok = true) ∨ (¬ (rb = true ∧ p = s) ∧ o = rV 0 0 0 0 0 ⟨#[]⟩ 0 0 ⟨#[]⟩ ∧ ok = false)) (hw : squelchref30_words.f K1 s = some [l0, w1d, w2d, w3d, w4d]) (hk : kindUp l0 11 = 6) (ha : squelchref30_number.f K2 w1d = some a) (hb : squelchref30_number.f K2 w2d = some b) (hn : squelchref30_number.f K2 w3d = some n) (hm : squelchref30_number.f K2 w4d = some m)
    (hr : squelchref30_Right.f K3 6 a b n m ⟨#[]⟩ 0 0 ⟨#[]⟩ = some rb) (hp : rb = true → squelchref30_Print.f 6 a b n m ⟨#[]⟩ 0 0 ⟨#[]⟩ = some p) :
    Calls Tryz.prog 8 #[.string s] w fun r w' => r = .returned (.tuple #[o, .bool ok]) ∧ Below w.heap.size w w' := by
  have HO := Aside0.mk ho
  clear ho
  have HW := Aside0.mk hw
  have HK := Aside0.mk hk
  have HR := Aside0.mk hr
  have HP := Aside0.mk hp
  have Ja := Aside0.mk ha
  have Jb := Aside0.mk hb
  have Jn := Aside0.mk hn
  have Jm := Aside0.mk hm
  clear hw hk hr hp ha hb hn hm
  go_enter Tryz.func8, Tryz.ntmps8
  go_wp2_with (fail)
  (with_reducible refine (words_at K1 s _ _ HW.out (by simp)).mono ?_)
  rintro e w2 ⟨⟨gw, cw, csw, rfl, hgw, hbw, hcw⟩, hb2⟩
  have HB2 := Aside0.mk (below_step ((Below.refl w.heap.size w).alloc (Nat.le_refl _) _) hb2)
  have HX2 := Aside0.mk ((hb2.block w.heap.size (by simp)).trans (heap_alloc_new w _))
  have HWb := Aside0.mk hbw
  have HCw := Aside0.mk hcw
  have hgw' : w.heap.size < gw := Nat.lt_of_lt_of_le (by simp) hgw
  have hlt2 : gw < w2.heap.size := lt_of_some hbw
  clear hb2 hbw hcw hgw
  have HQ := Aside0.mk (show PX w gw w2.heap.size csw #[.int .i64 0, .int .i64 0, .int .i64 0, .int .i64 0, .int .i64 0, .string ⟨#[]⟩, .int .i64 0, .int .i64 0, .string ⟨#[]⟩] (w2.alloc (.cells #[.int .i64 0, .int .i64 0, .int .i64 0, .int .i64 0, .int .i64 0, .string ⟨#[]⟩, .int .i64 0, .int .i64 0, .string ⟨#[]⟩] 31 (0, 0))) from ⟨below_alloc HB2.out _, (Below.heap_alloc _ _ _ (Nat.lt_trans hgw' hlt2)).trans HX2.out, (Below.heap_alloc _ _ _ hlt2).trans HWb.out, heap_alloc_new _ _, hgw', hlt2⟩)
  clear HB2 HX2 HWb
  go_wp2_with (fail)
  (with_reducible refine (names_bl _).mono ?_)
  rintro e w3 ⟨⟨gn, cn, csn, rfl, hgn, hbn, hcn⟩, hb3⟩
  have HQ3 := Aside0.mk (PX_below HQ.out hb3)
  have HNb := Aside0.mk hbn
  have HCn := Aside0.mk hcn
  have hgn' : w2.heap.size < gn := Nat.lt_of_lt_of_le (by simp) hgn
  clear hb3 HQ hbn hcn hgn
  generalize w2.heap.size = g at HQ3 hgn' hlt2 ⊢
  go_wp2_with (fail)
  go_loopw [7] (fun v7 wr => ∃ (j : Nat), j ≤ 11 ∧ v7 = .int .i64 ((j : Int) + 1) ∧ Aside0 (PX w gw g csw #[.int .i64 (kindUp l0 j : Int), .int .i64 0, .int .i64 0, .int .i64 0, .int .i64 0, .string ⟨#[]⟩, .int .i64 0, .int .i64 0, .string ⟨#[]⟩] wr) ∧ Aside0 (wr.heap[gn]? = some (.cells csn 9 (0, 0)))) (fun v7 _ => 12 - (intOf v7).toNat)
  case atStart => exact ⟨0, by omega, rfl, HQ3, HNb⟩
  case round =>
    obtain ⟨j, hj, rfl, HQj, HNj⟩ := hrel
    clear HQ3 HNb
    have hw0 := cell_of HQj.out.w (HCw.out 0 l0 rfl)
    by_cases hlt : j < 11
    · have hn0 := cell_of HNj.out (HCn.out (j + 1) (nameOf (j + 1)) (by unfold nameOf; rw [List.getD_eq_getElem?_getD, List.getElem?_eq_getElem (show j + 1 < namesL.length by show j + 1 < 12; omega)]; rfl))
      have hj0 : (0 ≤ (j : Int) + 1) = True := eq_true (by omega)
      have hj1 : ((j : Int) + 1 < 12) = True := eq_true (by omega)
      by_cases hq : nameOf (j + 1) = l0
      · have hqb : ((nameOf (j + 1)).toList == l0.toList) = true := by rw [hq]; exact beq_self_eq_true _
        have hup : kindUp l0 (j + 1) = j + 1 := by rw [kindUp, if_pos hq]
        have he0 := cell_of HQj.out.e (j := 0) rfl
        have hf0 := Lib.frozen_of_heap HQj.out.e 0
        go_wp2_with (fail)
        go_region_with (fail)
        all_goals go_wp2_with (fail)
        all_goals (go_roundw; (case rel => exact ⟨j + 1, by omega, rfl, ⟨by rw [hup]; repeat (first | exact PX_set HQj.out 0 _ | apply PX_drew)⟩, ⟨(set_ne HNj.out (show ¬ g = gn by omega) 0 _)⟩⟩); (case measure => simp [intOf]; omega))
      · have hqb : ((nameOf (j + 1)).toList == l0.toList) = false := beq_eq_false_iff_ne.2 (fun h => hq (by
          rw [Go.ByteArray.toList_eq, Go.ByteArray.toList_eq] at h
          generalize nameOf (j + 1) = nm at h
          cases nm; cases l0
          congr 1
          exact Array.ext' h))
        have hup : kindUp l0 (j + 1) = kindUp l0 j := by rw [kindUp, if_neg hq]
        go_wp2_with (fail)
        go_region_with (fail)
        all_goals go_wp2_with (fail)
        all_goals (go_roundw; (case rel => exact ⟨j + 1, by omega, rfl, ⟨by rw [hup]; repeat (first | exact HQj.out | apply PX_drew)⟩, ⟨HNj.out⟩⟩); (case measure => simp [intOf]; omega))
    · obtain rfl : j = 11 := by omega
      rw [HK.out] at HQj
      have HQ4 := Aside0.mk (show PX w gw g csw #[.int .i64 6, .int .i64 0, .int .i64 0, .int .i64 0, .int .i64 0, .string ⟨#[]⟩, .int .i64 0, .int .i64 0, .string ⟨#[]⟩] wr from HQj.out)
      have HQ0 := Aside0.mk (PX_alloc HQ4.out (.cells #[.int .i64 0, .int .i64 3, .int .i64 3, .int .i64 2, .int .i64 2, .int .i64 3, .int .i64 5, .int .i64 3, .int .i64 3, .int .i64 5, .int .i64 4, .int .i64 4] 3 (0, 0)))
      have HN5 := Aside0.mk (heap_alloc_new wr (.cells #[.int .i64 0, .int .i64 3, .int .i64 3, .int .i64 2, .int .i64 2, .int .i64 3, .int .i64 5, .int .i64 3, .int .i64 3, .int .i64 5, .int .i64 4, .int .i64 4] 3 (0, 0)))
      generalize hw6 : wr.alloc (.cells #[.int .i64 0, .int .i64 3, .int .i64 3, .int .i64 2, .int .i64 2, .int .i64 3, .int .i64 5, .int .i64 3, .int .i64 3, .int .i64 5, .int .i64 4, .int .i64 4] 3 (0, 0)) = v0 at HQ0 HN5
      clear HQj HQ4 HNj hw0
      obtain ⟨k0, k1, k2, k3, k4, k5, k6, k7, k8⟩ := cells9 HQ0.out.e
      have hn := cell_of HN5.out (j := 6) rfl
      have hwj := cell_of HQ0.out.w (HCw.out 1 _ rfl)
      go_wp2_with (fail)
      (with_reducible refine (squelchref30_number.calls K2 w1d a _ Ja.out).mono ?_)
      rintro r v1 ⟨rfl, hd⟩
      have HQ1 := Aside0.mk (show PX w gw g csw #[.int .i64 6, .int .i64 0, .int .i64 0, .int .i64 0, .int .i64 0, .string ⟨#[]⟩, .int .i64 0, .int .i64 0, .string ⟨#[]⟩] v1 from PX_below HQ0.out hd.below)
      clear HQ0 hd hwj hn hw6 HN5 k0 k1 k2 k3 k4 k5 k6 k7 k8
      obtain ⟨k0, k1, k2, k3, k4, k5, k6, k7, k8⟩ := cells9 HQ1.out.e
      have hwj := cell_of HQ1.out.w (HCw.out 2 _ rfl)
      have f1 := Lib.frozen_of_heap HQ1.out.e 1
      go_wp2_with (fail)
      (with_reducible refine (squelchref30_number.calls K2 w2d b _ Jb.out).mono ?_)
      rintro r v2 ⟨rfl, hd⟩
      have HQ2 := Aside0.mk (show PX w gw g csw #[.int .i64 6, .int .i64 a, .int .i64 0, .int .i64 0, .int .i64 0, .string ⟨#[]⟩, .int .i64 0, .int .i64 0, .string ⟨#[]⟩] v2 from PX_below (PX_set HQ1.out 1 (.int .i64 a)) hd.below)
      clear HQ1 hd hwj  k0 k1 k2 k3 k4 k5 k6 k7 k8 f1
      obtain ⟨k0, k1, k2, k3, k4, k5, k6, k7, k8⟩ := cells9 HQ2.out.e
      have f2 := Lib.frozen_of_heap HQ2.out.e 2
      have HQ3 := Aside0.mk (show PX w gw g csw #[.int .i64 6, .int .i64 a, .int .i64 b, .int .i64 0, .int .i64 0, .string ⟨#[]⟩, .int .i64 0, .int .i64 0, .string ⟨#[]⟩] (v2.setCell ⟨g, 2, none⟩ (.int .i64 b)) from PX_set HQ2.out 2 (.int .i64 b))
      generalize hwv : v2.setCell ⟨g, 2, none⟩ (.int .i64 b) = v3 at HQ3
      obtain ⟨m0, m1, m2, m3, m4, m5, m6, m7, m8⟩ := cells9 HQ3.out.e
      have hwj1 := cell_of HQ3.out.w (HCw.out 3 _ rfl)
      have hwj2 := cell_of HQ3.out.w (HCw.out 4 _ rfl)
      have f3 := Lib.frozen_of_heap HQ3.out.e 3
      have f4 := Lib.frozen_of_heap HQ3.out.e 4
      go_wp2_with (fail)
      clear HQ2 k0 k1 k2 k3 k4 k5 k6 k7 k8 f2 hwv
      go_region_with (first | (go_at_call 20; (first | (with_reducible refine (squelchref30_number.calls K2 w3d n _ Jn.out).mono ?_) | (with_reducible refine (squelchref30_number.calls K2 w4d m _ Jm.out).mono ?_)); rintro r v' ⟨rfl, ⟨nd, rfl⟩⟩))
      all_goals (
        go_wp2_with (fail)
        (with_reducible refine (squelchref30_Right.calls K3 6 a b n m ⟨#[]⟩ 0 0 ⟨#[]⟩ rb _ HR.out).mono ?_)
        rintro r v4 ⟨rfl, hd⟩
        have HQ4 : Aside0 (PX w gw g csw #[.int .i64 6, .int .i64 a, .int .i64 b, .int .i64 n, .int .i64 m, .string ⟨#[]⟩, .int .i64 0, .int .i64 0, .string ⟨#[]⟩] v4) := by
          refine ⟨PX_to' hd ?_⟩
          apply Exists.intro
          apply And.intro
          · repeat (first | exact HQ3.out | apply PX_set | apply PX_drewN | apply PX_drew)
          · rfl
        clear HQ3 hd m0 m1 m2 m3 m4 m5 m6 m7 m8
        obtain ⟨k0, k1, k2, k3, k4, k5, k6, k7, k8⟩ := cells9 HQ4.out.e
        cases rb with
        | false =>
          obtain ⟨rfl, rfl⟩ := (show o = rV 0 0 0 0 0 ⟨#[]⟩ 0 0 ⟨#[]⟩ ∧ ok = false from HO.out.elim (fun h => absurd (And.intro h.1 h.2.1) (fun h => Bool.false_ne_true h.1)) (fun h => h.2))
          obtain ⟨i0, i1, i2, i3, i4, i5, i6, i7, i8⟩ := cells9 HQ4.out.r
          have f0 := Lib.frozen_of_heap HQ4.out.r 0
          have f1 := Lib.frozen_of_heap HQ4.out.r 1
          have f2 := Lib.frozen_of_heap HQ4.out.r 2
          have f3 := Lib.frozen_of_heap HQ4.out.r 3
          have f4 := Lib.frozen_of_heap HQ4.out.r 4
          have f5 := Lib.frozen_of_heap HQ4.out.r 5
          have f6 := Lib.frozen_of_heap HQ4.out.r 6
          have f7 := Lib.frozen_of_heap HQ4.out.r 7
          have f8 := Lib.frozen_of_heap HQ4.out.r 8
          go_wp2_with (fail)
          refine bodyPost_ret (results_ct rfl _ _ w.heap.size 31 #[.int .i64 0, .int .i64 0, .int .i64 0, .int .i64 0, .int .i64 0, .string ⟨#[]⟩, .int .i64 0, .int .i64 0, .string ⟨#[]⟩] (0, 0) _ rfl ?hc Tryz.underlying31 rfl (by kernel_rfl)) rfl ?_
          case hc => exact nine_set HQ4.out.r
          exact ⟨rfl, below_sets9 HQ4.out.b (Nat.le_refl _) _ _ _ _ _ _ _ _ _⟩
        | true =>
          go_wp2_with (fail)
          (with_reducible refine (squelchref30_Print.calls 6 a b n m ⟨#[]⟩ 0 0 ⟨#[]⟩ p _ (HP.out (by first | rfl | trivial))).mono ?_)
          rintro r v5 ⟨rfl, hd⟩
          have HQ5 := Aside0.mk (PX_below HQ4.out hd)
          clear HQ4 hd k0 k1 k2 k3 k4 k5 k6 k7 k8
          obtain ⟨k0, k1, k2, k3, k4, k5, k6, k7, k8⟩ := cells9 HQ5.out.e
          by_cases hq : p = s
          · obtain ⟨rfl, rfl⟩ := (show o = rV 6 a b n m ⟨#[]⟩ 0 0 ⟨#[]⟩ ∧ ok = true from HO.out.elim (fun h => h.2.2) (fun h => absurd hq (fun e => h.1 ⟨by first | rfl | trivial, e⟩)))
            subst hq
            obtain ⟨i0, i1, i2, i3, i4, i5, i6, i7, i8⟩ := cells9 HQ5.out.r
            have f0 := Lib.frozen_of_heap HQ5.out.r 0
            have f1 := Lib.frozen_of_heap HQ5.out.r 1
            have f2 := Lib.frozen_of_heap HQ5.out.r 2
            have f3 := Lib.frozen_of_heap HQ5.out.r 3
            have f4 := Lib.frozen_of_heap HQ5.out.r 4
            have f5 := Lib.frozen_of_heap HQ5.out.r 5
            have f6 := Lib.frozen_of_heap HQ5.out.r 6
            have f7 := Lib.frozen_of_heap HQ5.out.r 7
            have f8 := Lib.frozen_of_heap HQ5.out.r 8
            go_wp2_with (fail)
            refine bodyPost_ret (results_ct rfl _ _ w.heap.size 31 #[.int .i64 6, .int .i64 a, .int .i64 b, .int .i64 n, .int .i64 m, .string ⟨#[]⟩, .int .i64 0, .int .i64 0, .string ⟨#[]⟩] (0, 0) _ rfl ?hc Tryz.underlying31 rfl (by kernel_rfl)) rfl ?_
            case hc => exact nine_set HQ5.out.r
            exact ⟨rfl, below_sets9 HQ5.out.b (Nat.le_refl _) _ _ _ _ _ _ _ _ _⟩
          · have hne : (p.toList == s.toList) = false := toList_ne hq
            obtain ⟨rfl, rfl⟩ := (show o = rV 0 0 0 0 0 ⟨#[]⟩ 0 0 ⟨#[]⟩ ∧ ok = false from HO.out.elim (fun h => absurd (And.intro h.1 h.2.1) (fun h => hq h.2)) (fun h => h.2))
            obtain ⟨i0, i1, i2, i3, i4, i5, i6, i7, i8⟩ := cells9 HQ5.out.r
            have f0 := Lib.frozen_of_heap HQ5.out.r 0
            have f1 := Lib.frozen_of_heap HQ5.out.r 1
            have f2 := Lib.frozen_of_heap HQ5.out.r 2
            have f3 := Lib.frozen_of_heap HQ5.out.r 3
            have f4 := Lib.frozen_of_heap HQ5.out.r 4
            have f5 := Lib.frozen_of_heap HQ5.out.r 5
            have f6 := Lib.frozen_of_heap HQ5.out.r 6
            have f7 := Lib.frozen_of_heap HQ5.out.r 7
            have f8 := Lib.frozen_of_heap HQ5.out.r 8
            go_wp2_with (fail)
            refine bodyPost_ret (results_ct rfl _ _ w.heap.size 31 #[.int .i64 0, .int .i64 0, .int .i64 0, .int .i64 0, .int .i64 0, .string ⟨#[]⟩, .int .i64 0, .int .i64 0, .string ⟨#[]⟩] (0, 0) _ rfl ?hc Tryz.underlying31 rfl (by kernel_rfl)) rfl ?_
            case hc => exact nine_set HQ5.out.r
            exact ⟨rfl, below_sets9 HQ5.out.b (Nat.le_refl _) _ _ _ _ _ _ _ _ _⟩)
end Go.Proofs.YtndgaeldndgioaaGreatDoor.QAll
end

section
/- squelchref30.Parse, walked by hand: a line of kind 7. -/
set_option linter.unusedVariables false
set_option linter.unusedSimpArgs false
namespace Go.Proofs.YtndgaeldndgioaaGreatDoor.QAll
open Go.RowKit Go.Proofs.YtndgaeldndgioaaGreatDoorW.PrintWords Go.Proofs.YtndgaeldndgioaaGreatDoorW.PrintLast Go.Proofs.YtndgaeldndgioaaGreatDoorW.PrintMore
set_option maxHeartbeats 16000000 in
set_option maxRecDepth 100000 in
theorem rparse7 (s l0 w1d w2d : ByteArray) (K1 K2 K3 K4 : Nat) (a : Int) (b : Int) (rb : Bool) (p : ByteArray) (o : Value) (ok : Bool) (w : World) (ho : (rb = true ∧ p = s ∧ o = rV 7 a b 0 0 ⟨#[]⟩ 0 0 ⟨#[]⟩ ∧ ok = true) ∨ (¬ (rb = true ∧ p = s) ∧ o = rV 0 0 0 0 0 ⟨#[]⟩ 0 0 ⟨#[]⟩ ∧ ok = false)) (hw : squelchref30_words.f K1 s = some [l0, w1d, w2d]) (hk : kindUp l0 11 = 7) (ha : squelchref30_number.f K2 w1d = some a) (hb : squelchref30_number.f K2 w2d = some b)
    (hr : squelchref30_Right.f K3 7 a b 0 0 ⟨#[]⟩ 0 0 ⟨#[]⟩ = some rb) (hp : rb = true → squelchref30_Print.f 7 a b 0 0 ⟨#[]⟩ 0 0 ⟨#[]⟩ = some p) :
    Calls Tryz.prog 8 #[.string s] w fun r w' => r = .returned (.tuple #[o, .bool ok]) ∧ Below w.heap.size w w' := by
  have HO := Aside0.mk ho
  clear ho
  have HW := Aside0.mk hw
  have HK := Aside0.mk hk
  have HR := Aside0.mk hr
  have HP := Aside0.mk hp
  have Ja := Aside0.mk ha
  have Jb := Aside0.mk hb
  clear hw hk hr hp ha hb
  go_enter Tryz.func8, Tryz.ntmps8
  go_wp2_with (fail)
  (with_reducible refine (words_at K1 s _ _ HW.out (by simp)).mono ?_)
  rintro e w2 ⟨⟨gw, cw, csw, rfl, hgw, hbw, hcw⟩, hb2⟩
  have HB2 := Aside0.mk (below_step ((Below.refl w.heap.size w).alloc (Nat.le_refl _) _) hb2)
  have HX2 := Aside0.mk ((hb2.block w.heap.size (by simp)).trans (heap_alloc_new w _))
  have HWb := Aside0.mk hbw
  have HCw := Aside0.mk hcw
  have hgw' : w.heap.size < gw := Nat.lt_of_lt_of_le (by simp) hgw
  have hlt2 : gw < w2.heap.size := lt_of_some hbw
  clear hb2 hbw hcw hgw
  have HQ := Aside0.mk (show PX w gw w2.heap.size csw #[.int .i64 0, .int .i64 0, .int .i64 0, .int .i64 0, .int .i64 0, .string ⟨#[]⟩, .int .i64 0, .int .i64 0, .string ⟨#[]⟩] (w2.alloc (.cells #[.int .i64 0, .int .i64 0, .int .i64 0, .int .i64 0, .int .i64 0, .string ⟨#[]⟩, .int .i64 0, .int .i64 0, .string ⟨#[]⟩] 31 (0, 0))) from ⟨below_alloc HB2.out _, (Below.heap_alloc _ _ _ (Nat.lt_trans hgw' hlt2)).trans HX2.out, (Below.heap_alloc _ _ _ hlt2).trans HWb.out, heap_alloc_new _ _, hgw', hlt2⟩)
  clear HB2 HX2 HWb
  go_wp2_with (fail)
  (with_reducible refine (names_bl _).mono ?_)
  rintro e w3 ⟨⟨gn, cn, csn, rfl, hgn, hbn, hcn⟩, hb3⟩
  have HQ3 := Aside0.mk (PX_below HQ.out hb3)
  have HNb := Aside0.mk hbn
  have HCn := Aside0.mk hcn
  have hgn' : w2.heap.size < gn := Nat.lt_of_lt_of_le (by simp) hgn
  clear hb3 HQ hbn hcn hgn
  generalize w2.heap.size = g at HQ3 hgn' hlt2 ⊢
  go_wp2_with (fail)
  go_loopw [7] (fun v7 wr => ∃ (j : Nat), j ≤ 11 ∧ v7 = .int .i64 ((j : Int) + 1) ∧ Aside0 (PX w gw g csw #[.int .i64 (kindUp l0 j : Int), .int .i64 0, .int .i64 0, .int .i64 0, .int .i64 0, .string ⟨#[]⟩, .int .i64 0, .int .i64 0, .string ⟨#[]⟩] wr) ∧ Aside0 (wr.heap[gn]? = some (.cells csn 9 (0, 0)))) (fun v7 _ => 12 - (intOf v7).toNat)
  case atStart => exact ⟨0, by omega, rfl, HQ3, HNb⟩
  case round =>
    obtain ⟨j, hj, rfl, HQj, HNj⟩ := hrel
    clear HQ3 HNb
    have hw0 := cell_of HQj.out.w (HCw.out 0 l0 rfl)
    by_cases hlt : j < 11
    · have hn0 := cell_of HNj.out (HCn.out (j + 1) (nameOf (j + 1)) (by unfold nameOf; rw [List.getD_eq_getElem?_getD, List.getElem?_eq_getElem (show j + 1 < namesL.length by show j + 1 < 12; omega)]; rfl))
      have hj0 : (0 ≤ (j : Int) + 1) = True := eq_true (by omega)
      have hj1 : ((j : Int) + 1 < 12) = True := eq_true (by omega)
      by_cases hq : nameOf (j + 1) = l0
      · have hqb : ((nameOf (j + 1)).toList == l0.toList) = true := by rw [hq]; exact beq_self_eq_true _
        have hup : kindUp l0 (j + 1) = j + 1 := by rw [kindUp, if_pos hq]
        have he0 := cell_of HQj.out.e (j := 0) rfl
        have hf0 := Lib.frozen_of_heap HQj.out.e 0
        go_wp2_with (fail)
        go_region_with (fail)
        all_goals go_wp2_with (fail)
        all_goals (go_roundw; (case rel => exact ⟨j + 1, by omega, rfl, ⟨by rw [hup]; repeat (first | exact PX_set HQj.out 0 _ | apply PX_drew)⟩, ⟨(set_ne HNj.out (show ¬ g = gn by omega) 0 _)⟩⟩); (case measure => simp [intOf]; omega))
      · have hqb : ((nameOf (j + 1)).toList == l0.toList) = false := beq_eq_false_iff_ne.2 (fun h => hq (by
          rw [Go.ByteArray.toList_eq, Go.ByteArray.toList_eq] at h
          generalize nameOf (j + 1) = nm at h
          cases nm; cases l0
          congr 1
          exact Array.ext' h))
        have hup : kindUp l0 (j + 1) = kindUp l0 j := by rw [kindUp, if_neg hq]
        go_wp2_with (fail)
        go_region_with (fail)
        all_goals go_wp2_with (fail)
        all_goals (go_roundw; (case rel => exact ⟨j + 1, by omega, rfl, ⟨by rw [hup]; repeat (first | exact HQj.out | apply PX_drew)⟩, ⟨HNj.out⟩⟩); (case measure => simp [intOf]; omega))
    · obtain rfl : j = 11 := by omega
      rw [HK.out] at HQj
      have HQ4 := Aside0.mk (show PX w gw g csw #[.int .i64 7, .int .i64 0, .int .i64 0, .int .i64 0, .int .i64 0, .string ⟨#[]⟩, .int .i64 0, .int .i64 0, .string ⟨#[]⟩] wr from HQj.out)
      have HQ0 := Aside0.mk (PX_alloc HQ4.out (.cells #[.int .i64 0, .int .i64 3, .int .i64 3, .int .i64 2, .int .i64 2, .int .i64 3, .int .i64 5, .int .i64 3, .int .i64 3, .int .i64 5, .int .i64 4, .int .i64 4] 3 (0, 0)))
      have HN5 := Aside0.mk (heap_alloc_new wr (.cells #[.int .i64 0, .int .i64 3, .int .i64 3, .int .i64 2, .int .i64 2, .int .i64 3, .int .i64 5, .int .i64 3, .int .i64 3, .int .i64 5, .int .i64 4, .int .i64 4] 3 (0, 0)))
      generalize hw6 : wr.alloc (.cells #[.int .i64 0, .int .i64 3, .int .i64 3, .int .i64 2, .int .i64 2, .int .i64 3, .int .i64 5, .int .i64 3, .int .i64 3, .int .i64 5, .int .i64 4, .int .i64 4] 3 (0, 0)) = v0 at HQ0 HN5
      clear HQj HQ4 HNj hw0
      obtain ⟨k0, k1, k2, k3, k4, k5, k6, k7, k8⟩ := cells9 HQ0.out.e
      have hn := cell_of HN5.out (j := 7) rfl
      have hwj := cell_of HQ0.out.w (HCw.out 1 _ rfl)
      go_wp2_with (fail)
      (with_reducible refine (squelchref30_number.calls K2 w1d a _ Ja.out).mono ?_)
      rintro r v1 ⟨rfl, hd⟩
      have HQ1 := Aside0.mk (show PX w gw g csw #[.int .i64 7, .int .i64 0, .int .i64 0, .int .i64 0, .int .i64 0, .string ⟨#[]⟩, .int .i64 0, .int .i64 0, .string ⟨#[]⟩] v1 from PX_below HQ0.out hd.below)
      clear HQ0 hd hwj hn hw6 HN5 k0 k1 k2 k3 k4 k5 k6 k7 k8
      obtain ⟨k0, k1, k2, k3, k4, k5, k6, k7, k8⟩ := cells9 HQ1.out.e
      have hwj := cell_of HQ1.out.w (HCw.out 2 _ rfl)
      have f1 := Lib.frozen_of_heap HQ1.out.e 1
      go_wp2_with (fail)
      (with_reducible refine (squelchref30_number.calls K2 w2d b _ Jb.out).mono ?_)
      rintro r v2 ⟨rfl, hd⟩
      have HQ2 := Aside0.mk (show PX w gw g csw #[.int .i64 7, .int .i64 a, .int .i64 0, .int .i64 0, .int .i64 0, .string ⟨#[]⟩, .int .i64 0, .int .i64 0, .string ⟨#[]⟩] v2 from PX_below (PX_set HQ1.out 1 (.int .i64 a)) hd.below)
      clear HQ1 hd hwj  k0 k1 k2 k3 k4 k5 k6 k7 k8 f1
      obtain ⟨k0, k1, k2, k3, k4, k5, k6, k7, k8⟩ := cells9 HQ2.out.e
      have f2 := Lib.frozen_of_heap HQ2.out.e 2
      go_wp2_with (fail)
      (with_reducible refine (squelchref30_Right.calls K3 7 a b 0 0 ⟨#[]⟩ 0 0 ⟨#[]⟩ rb _ HR.out).mono ?_)
      rintro r v3 ⟨rfl, hd⟩
      have HQ3 : Aside0 (PX w gw g csw #[.int .i64 7, .int .i64 a, .int .i64 b, .int .i64 0, .int .i64 0, .string ⟨#[]⟩, .int .i64 0, .int .i64 0, .string ⟨#[]⟩] v3) := by
        refine ⟨PX_to' hd ?_⟩
        apply Exists.intro
        apply And.intro
        · repeat (first | exact HQ2.out | apply PX_set | apply PX_drewN | apply PX_drew)
        · rfl
      clear HQ2 hd k0 k1 k2 k3 k4 k5 k6 k7 k8
      obtain ⟨k0, k1, k2, k3, k4, k5, k6, k7, k8⟩ := cells9 HQ3.out.e
      cases rb with
      | false =>
        obtain ⟨rfl, rfl⟩ := (show o = rV 0 0 0 0 0 ⟨#[]⟩ 0 0 ⟨#[]⟩ ∧ ok = false from HO.out.elim (fun h => absurd (And.intro h.1 h.2.1) (fun h => Bool.false_ne_true h.1)) (fun h => h.2))
        obtain ⟨i0, i1, i2, i3, i4, i5, i6, i7, i8⟩ := cells9 HQ3.out.r
        have f0 := Lib.frozen_of_heap HQ3.out.r 0
        have f1 := Lib.frozen_of_heap HQ3.out.r 1
        have f2 := Lib.frozen_of_heap HQ3.out.r 2
        have f3 := Lib.frozen_of_heap HQ3.out.r 3
        have f4 := Lib.frozen_of_heap HQ3.out.r 4
        have f5 := Lib.frozen_of_heap HQ3.out.r 5
        have f6 := Lib.frozen_of_heap HQ3.out.r 6
        have f7 := Lib.frozen_of_heap HQ3.out.r 7
        have f8 := Lib.frozen_of_heap HQ3.out.r 8
        go_wp2_with (fail)
        refine bodyPost_ret (results_ct rfl _ _ w.heap.size 31 #[.int .i64 0, .int .i64 0, .int .i64 0, .int .i64 0, .int .i64 0, .string ⟨#[]⟩, .int .i64 0, .int .i64 0, .string ⟨#[]⟩] (0, 0) _ rfl ?hc Tryz.underlying31 rfl (by kernel_rfl)) rfl ?_
        case hc => exact nine_set HQ3.out.r
        exact ⟨rfl, below_sets9 HQ3.out.b (Nat.le_refl _) _ _ _ _ _ _ _ _ _⟩
      | true =>
        go_wp2_with (fail)
        (with_reducible refine (squelchref30_Print.calls 7 a b 0 0 ⟨#[]⟩ 0 0 ⟨#[]⟩ p _ (HP.out (by first | rfl | trivial))).mono ?_)
        rintro r v4 ⟨rfl, hd⟩
        have HQ4 := Aside0.mk (PX_below HQ3.out hd)
        clear HQ3 hd k0 k1 k2 k3 k4 k5 k6 k7 k8
        obtain ⟨k0, k1, k2, k3, k4, k5, k6, k7, k8⟩ := cells9 HQ4.out.e
        by_cases hq : p = s
        · obtain ⟨rfl, rfl⟩ := (show o = rV 7 a b 0 0 ⟨#[]⟩ 0 0 ⟨#[]⟩ ∧ ok = true from HO.out.elim (fun h => h.2.2) (fun h => absurd hq (fun e => h.1 ⟨by first | rfl | trivial, e⟩)))
          subst hq
          obtain ⟨i0, i1, i2, i3, i4, i5, i6, i7, i8⟩ := cells9 HQ4.out.r
          have f0 := Lib.frozen_of_heap HQ4.out.r 0
          have f1 := Lib.frozen_of_heap HQ4.out.r 1
          have f2 := Lib.frozen_of_heap HQ4.out.r 2
          have f3 := Lib.frozen_of_heap HQ4.out.r 3
          have f4 := Lib.frozen_of_heap HQ4.out.r 4
          have f5 := Lib.frozen_of_heap HQ4.out.r 5
          have f6 := Lib.frozen_of_heap HQ4.out.r 6
          have f7 := Lib.frozen_of_heap HQ4.out.r 7
          have f8 := Lib.frozen_of_heap HQ4.out.r 8
          go_wp2_with (fail)
          refine bodyPost_ret (results_ct rfl _ _ w.heap.size 31 #[.int .i64 7, .int .i64 a, .int .i64 b, .int .i64 0, .int .i64 0, .string ⟨#[]⟩, .int .i64 0, .int .i64 0, .string ⟨#[]⟩] (0, 0) _ rfl ?hc Tryz.underlying31 rfl (by kernel_rfl)) rfl ?_
          case hc => exact nine_set HQ4.out.r
          exact ⟨rfl, below_sets9 HQ4.out.b (Nat.le_refl _) _ _ _ _ _ _ _ _ _⟩
        · have hne : (p.toList == s.toList) = false := toList_ne hq
          obtain ⟨rfl, rfl⟩ := (show o = rV 0 0 0 0 0 ⟨#[]⟩ 0 0 ⟨#[]⟩ ∧ ok = false from HO.out.elim (fun h => absurd (And.intro h.1 h.2.1) (fun h => hq h.2)) (fun h => h.2))
          obtain ⟨i0, i1, i2, i3, i4, i5, i6, i7, i8⟩ := cells9 HQ4.out.r
          have f0 := Lib.frozen_of_heap HQ4.out.r 0
          have f1 := Lib.frozen_of_heap HQ4.out.r 1
          have f2 := Lib.frozen_of_heap HQ4.out.r 2
          have f3 := Lib.frozen_of_heap HQ4.out.r 3
          have f4 := Lib.frozen_of_heap HQ4.out.r 4
          have f5 := Lib.frozen_of_heap HQ4.out.r 5
          have f6 := Lib.frozen_of_heap HQ4.out.r 6
          have f7 := Lib.frozen_of_heap HQ4.out.r 7
          have f8 := Lib.frozen_of_heap HQ4.out.r 8
          go_wp2_with (fail)
          refine bodyPost_ret (results_ct rfl _ _ w.heap.size 31 #[.int .i64 0, .int .i64 0, .int .i64 0, .int .i64 0, .int .i64 0, .string ⟨#[]⟩, .int .i64 0, .int .i64 0, .string ⟨#[]⟩] (0, 0) _ rfl ?hc Tryz.underlying31 rfl (by kernel_rfl)) rfl ?_
          case hc => exact nine_set HQ4.out.r
          exact ⟨rfl, below_sets9 HQ4.out.b (Nat.le_refl _) _ _ _ _ _ _ _ _ _⟩
end Go.Proofs.YtndgaeldndgioaaGreatDoor.QAll
end

section
/- squelchref30.Parse, walked by hand: a line of kind 8. -/
set_option linter.unusedVariables false
set_option linter.unusedSimpArgs false
namespace Go.Proofs.YtndgaeldndgioaaGreatDoor.QAll
open Go.RowKit Go.Proofs.YtndgaeldndgioaaGreatDoorW.PrintWords Go.Proofs.YtndgaeldndgioaaGreatDoorW.PrintLast Go.Proofs.YtndgaeldndgioaaGreatDoorW.PrintMore
set_option maxHeartbeats 16000000 in
set_option maxRecDepth 100000 in
theorem rparse8 (s l0 w1d w2d : ByteArray) (K1 K2 K3 K4 : Nat) (a : Int) (b : Int) (rb : Bool) (p : ByteArray) (o : Value) (ok : Bool) (w : World) (ho : (rb = true ∧ p = s ∧ o = rV 8 a b 0 0 ⟨#[]⟩ 0 0 ⟨#[]⟩ ∧ ok = true) ∨ (¬ (rb = true ∧ p = s) ∧ o = rV 0 0 0 0 0 ⟨#[]⟩ 0 0 ⟨#[]⟩ ∧ ok = false)) (hw : squelchref30_words.f K1 s = some [l0, w1d, w2d]) (hk : kindUp l0 11 = 8) (ha : squelchref30_number.f K2 w1d = some a) (hb : squelchref30_number.f K2 w2d = some b)
    (hr : squelchref30_Right.f K3 8 a b 0 0 ⟨#[]⟩ 0 0 ⟨#[]⟩ = some rb) (hp : rb = true → squelchref30_Print.f 8 a b 0 0 ⟨#[]⟩ 0 0 ⟨#[]⟩ = some p) :
    Calls Tryz.prog 8 #[.string s] w fun r w' => r = .returned (.tuple #[o, .bool ok]) ∧ Below w.heap.size w w' := by
  have HO := Aside0.mk ho
  clear ho
  have HW := Aside0.mk hw
  have HK := Aside0.mk hk
  have HR := Aside0.mk hr
  have HP := Aside0.mk hp
  have Ja := Aside0.mk ha
  have Jb := Aside0.mk hb
  clear hw hk hr hp ha hb
  go_enter Tryz.func8, Tryz.ntmps8
  go_wp2_with (fail)
  (with_reducible refine (words_at K1 s _ _ HW.out (by simp)).mono ?_)
  rintro e w2 ⟨⟨gw, cw, csw, rfl, hgw, hbw, hcw⟩, hb2⟩
  have HB2 := Aside0.mk (below_step ((Below.refl w.heap.size w).alloc (Nat.le_refl _) _) hb2)
  have HX2 := Aside0.mk ((hb2.block w.heap.size (by simp)).trans (heap_alloc_new w _))
  have HWb := Aside0.mk hbw
  have HCw := Aside0.mk hcw
  have hgw' : w.heap.size < gw := Nat.lt_of_lt_of_le (by simp) hgw
  have hlt2 : gw < w2.heap.size := lt_of_some hbw
  clear hb2 hbw hcw hgw
  have HQ := Aside0.mk (show PX w gw w2.heap.size csw #[.int .i64 0, .int .i64 0, .int .i64 0, .int .i64 0, .int .i64 0, .string ⟨#[]⟩, .int .i64 0, .int .i64 0, .string ⟨#[]⟩] (w2.alloc (.cells #[.int .i64 0, .int .i64 0, .int .i64 0, .int .i64 0, .int .i64 0, .string ⟨#[]⟩, .int .i64 0, .int .i64 0, .string ⟨#[]⟩] 31 (0, 0))) from ⟨below_alloc HB2.out _, (Below.heap_alloc _ _ _ (Nat.lt_trans hgw' hlt2)).trans HX2.out, (Below.heap_alloc _ _ _ hlt2).trans HWb.out, heap_alloc_new _ _, hgw', hlt2⟩)
  clear HB2 HX2 HWb
  go_wp2_with (fail)
  (with_reducible refine (names_bl _).mono ?_)
  rintro e w3 ⟨⟨gn, cn, csn, rfl, hgn, hbn, hcn⟩, hb3⟩
  have HQ3 := Aside0.mk (PX_below HQ.out hb3)
  have HNb := Aside0.mk hbn
  have HCn := Aside0.mk hcn
  have hgn' : w2.heap.size < gn := Nat.lt_of_lt_of_le (by simp) hgn
  clear hb3 HQ hbn hcn hgn
  generalize w2.heap.size = g at HQ3 hgn' hlt2 ⊢
  go_wp2_with (fail)
  go_loopw [7] (fun v7 wr => ∃ (j : Nat), j ≤ 11 ∧ v7 = .int .i64 ((j : Int) + 1) ∧ Aside0 (PX w gw g csw #[.int .i64 (kindUp l0 j : Int), .int .i64 0, .int .i64 0, .int .i64 0, .int .i64 0, .string ⟨#[]⟩, .int .i64 0, .int .i64 0, .string ⟨#[]⟩] wr) ∧ Aside0 (wr.heap[gn]? = some (.cells csn 9 (0, 0)))) (fun v7 _ => 12 - (intOf v7).toNat)
  case atStart => exact ⟨0, by omega, rfl, HQ3, HNb⟩
  case round =>
    obtain ⟨j, hj, rfl, HQj, HNj⟩ := hrel
    clear HQ3 HNb
    have hw0 := cell_of HQj.out.w (HCw.out 0 l0 rfl)
    by_cases hlt : j < 11
    · have hn0 := cell_of HNj.out (HCn.out (j + 1) (nameOf (j + 1)) (by unfold nameOf; rw [List.getD_eq_getElem?_getD, List.getElem?_eq_getElem (show j + 1 < namesL.length by show j + 1 < 12; omega)]; rfl))
      have hj0 : (0 ≤ (j : Int) + 1) = True := eq_true (by omega)
      have hj1 : ((j : Int) + 1 < 12) = True := eq_true (by omega)
      by_cases hq : nameOf (j + 1) = l0
      · have hqb : ((nameOf (j + 1)).toList == l0.toList) = true := by rw [hq]; exact beq_self_eq_true _
        have hup : kindUp l0 (j + 1) = j + 1 := by rw [kindUp, if_pos hq]
        have he0 := cell_of HQj.out.e (j := 0) rfl
        have hf0 := Lib.frozen_of_heap HQj.out.e 0
        go_wp2_with (fail)
        go_region_with (fail)
        all_goals go_wp2_with (fail)
        all_goals (go_roundw; (case rel => exact ⟨j + 1, by omega, rfl, ⟨by rw [hup]; repeat (first | exact PX_set HQj.out 0 _ | apply PX_drew)⟩, ⟨(set_ne HNj.out (show ¬ g = gn by omega) 0 _)⟩⟩); (case measure => simp [intOf]; omega))
      · have hqb : ((nameOf (j + 1)).toList == l0.toList) = false := beq_eq_false_iff_ne.2 (fun h => hq (by
          rw [Go.ByteArray.toList_eq, Go.ByteArray.toList_eq] at h
          generalize nameOf (j + 1) = nm at h
          cases nm; cases l0
          congr 1
          exact Array.ext' h))
        have hup : kindUp l0 (j + 1) = kindUp l0 j := by rw [kindUp, if_neg hq]
        go_wp2_with (fail)
        go_region_with (fail)
        all_goals go_wp2_with (fail)
        all_goals (go_roundw; (case rel => exact ⟨j + 1, by omega, rfl, ⟨by rw [hup]; repeat (first | exact HQj.out | apply PX_drew)⟩, ⟨HNj.out⟩⟩); (case measure => simp [intOf]; omega))
    · obtain rfl : j = 11 := by omega
      rw [HK.out] at HQj
      have HQ4 := Aside0.mk (show PX w gw g csw #[.int .i64 8, .int .i64 0, .int .i64 0, .int .i64 0, .int .i64 0, .string ⟨#[]⟩, .int .i64 0, .int .i64 0, .string ⟨#[]⟩] wr from HQj.out)
      have HQ0 := Aside0.mk (PX_alloc HQ4.out (.cells #[.int .i64 0, .int .i64 3, .int .i64 3, .int .i64 2, .int .i64 2, .int .i64 3, .int .i64 5, .int .i64 3, .int .i64 3, .int .i64 5, .int .i64 4, .int .i64 4] 3 (0, 0)))
      have HN5 := Aside0.mk (heap_alloc_new wr (.cells #[.int .i64 0, .int .i64 3, .int .i64 3, .int .i64 2, .int .i64 2, .int .i64 3, .int .i64 5, .int .i64 3, .int .i64 3, .int .i64 5, .int .i64 4, .int .i64 4] 3 (0, 0)))
      generalize hw6 : wr.alloc (.cells #[.int .i64 0, .int .i64 3, .int .i64 3, .int .i64 2, .int .i64 2, .int .i64 3, .int .i64 5, .int .i64 3, .int .i64 3, .int .i64 5, .int .i64 4, .int .i64 4] 3 (0, 0)) = v0 at HQ0 HN5
      clear HQj HQ4 HNj hw0
      obtain ⟨k0, k1, k2, k3, k4, k5, k6, k7, k8⟩ := cells9 HQ0.out.e
      have hn := cell_of HN5.out (j := 8) rfl
      have hwj := cell_of HQ0.out.w (HCw.out 1 _ rfl)
      go_wp2_with (fail)
      (with_reducible refine (squelchref30_number.calls K2 w1d a _ Ja.out).mono ?_)
      rintro r v1 ⟨rfl, hd⟩
      have HQ1 := Aside0.mk (show PX w gw g csw #[.int .i64 8, .int .i64 0, .int .i64 0, .int .i64 0, .int .i64 0, .string ⟨#[]⟩, .int .i64 0, .int .i64 0, .string ⟨#[]⟩] v1 from PX_below HQ0.out hd.below)
      clear HQ0 hd hwj hn hw6 HN5 k0 k1 k2 k3 k4 k5 k6 k7 k8
      obtain ⟨k0, k1, k2, k3, k4, k5, k6, k7, k8⟩ := cells9 HQ1.out.e
      have hwj := cell_of HQ1.out.w (HCw.out 2 _ rfl)
      have f1 := Lib.frozen_of_heap HQ1.out.e 1
      go_wp2_with (fail)
      (with_reducible refine (squelchref30_number.calls K2 w2d b _ Jb.out).mono ?_)
      rintro r v2 ⟨rfl, hd⟩
      have HQ2 := Aside0.mk (show PX w gw g csw #[.int .i64 8, .int .i64 a, .int .i64 0, .int .i64 0, .int .i64 0, .string ⟨#[]⟩, .int .i64 0, .int .i64 0, .string ⟨#[]⟩] v2 from PX_below (PX_set HQ1.out 1 (.int .i64 a)) hd.below)
      clear HQ1 hd hwj  k0 k1 k2 k3 k4 k5 k6 k7 k8 f1
      obtain ⟨k0, k1, k2, k3, k4, k5, k6, k7, k8⟩ := cells9 HQ2.out.e
      have f2 := Lib.frozen_of_heap HQ2.out.e 2
      go_wp2_with (fail)
      (with_reducible refine (squelchref30_Right.calls K3 8 a b 0 0 ⟨#[]⟩ 0 0 ⟨#[]⟩ rb _ HR.out).mono ?_)
      rintro r v3 ⟨rfl, hd⟩
      have HQ3 : Aside0 (PX w gw g csw #[.int .i64 8, .int .i64 a, .int .i64 b, .int .i64 0, .int .i64 0, .string ⟨#[]⟩, .int .i64 0, .int .i64 0, .string ⟨#[]⟩] v3) := by
        refine ⟨PX_to' hd ?_⟩
        apply Exists.intro
        apply And.intro
        · repeat (first | exact HQ2.out | apply PX_set | apply PX_drewN | apply PX_drew)
        · rfl
      clear HQ2 hd k0 k1 k2 k3 k4 k5 k6 k7 k8
      obtain ⟨k0, k1, k2, k3, k4, k5, k6, k7, k8⟩ := cells9 HQ3.out.e
      cases rb with
      | false =>
        obtain ⟨rfl, rfl⟩ := (show o = rV 0 0 0 0 0 ⟨#[]⟩ 0 0 ⟨#[]⟩ ∧ ok = false from HO.out.elim (fun h => absurd (And.intro h.1 h.2.1) (fun h => Bool.false_ne_true h.1)) (fun h => h.2))
        obtain ⟨i0, i1, i2, i3, i4, i5, i6, i7, i8⟩ := cells9 HQ3.out.r
        have f0 := Lib.frozen_of_heap HQ3.out.r 0
        have f1 := Lib.frozen_of_heap HQ3.out.r 1
        have f2 := Lib.frozen_of_heap HQ3.out.r 2
        have f3 := Lib.frozen_of_heap HQ3.out.r 3
        have f4 := Lib.frozen_of_heap HQ3.out.r 4
        have f5 := Lib.frozen_of_heap HQ3.out.r 5
        have f6 := Lib.frozen_of_heap HQ3.out.r 6
        have f7 := Lib.frozen_of_heap HQ3.out.r 7
        have f8 := Lib.frozen_of_heap HQ3.out.r 8
        go_wp2_with (fail)
        refine bodyPost_ret (results_ct rfl _ _ w.heap.size 31 #[.int .i64 0, .int .i64 0, .int .i64 0, .int .i64 0, .int .i64 0, .string ⟨#[]⟩, .int .i64 0, .int .i64 0, .string ⟨#[]⟩] (0, 0) _ rfl ?hc Tryz.underlying31 rfl (by kernel_rfl)) rfl ?_
        case hc => exact nine_set HQ3.out.r
        exact ⟨rfl, below_sets9 HQ3.out.b (Nat.le_refl _) _ _ _ _ _ _ _ _ _⟩
      | true =>
        go_wp2_with (fail)
        (with_reducible refine (squelchref30_Print.calls 8 a b 0 0 ⟨#[]⟩ 0 0 ⟨#[]⟩ p _ (HP.out (by first | rfl | trivial))).mono ?_)
        rintro r v4 ⟨rfl, hd⟩
        have HQ4 := Aside0.mk (PX_below HQ3.out hd)
        clear HQ3 hd k0 k1 k2 k3 k4 k5 k6 k7 k8
        obtain ⟨k0, k1, k2, k3, k4, k5, k6, k7, k8⟩ := cells9 HQ4.out.e
        by_cases hq : p = s
        · obtain ⟨rfl, rfl⟩ := (show o = rV 8 a b 0 0 ⟨#[]⟩ 0 0 ⟨#[]⟩ ∧ ok = true from HO.out.elim (fun h => h.2.2) (fun h => absurd hq (fun e => h.1 ⟨by first | rfl | trivial, e⟩)))
          subst hq
          obtain ⟨i0, i1, i2, i3, i4, i5, i6, i7, i8⟩ := cells9 HQ4.out.r
          have f0 := Lib.frozen_of_heap HQ4.out.r 0
          have f1 := Lib.frozen_of_heap HQ4.out.r 1
          have f2 := Lib.frozen_of_heap HQ4.out.r 2
          have f3 := Lib.frozen_of_heap HQ4.out.r 3
          have f4 := Lib.frozen_of_heap HQ4.out.r 4
          have f5 := Lib.frozen_of_heap HQ4.out.r 5
          have f6 := Lib.frozen_of_heap HQ4.out.r 6
          have f7 := Lib.frozen_of_heap HQ4.out.r 7
          have f8 := Lib.frozen_of_heap HQ4.out.r 8
          go_wp2_with (fail)
          refine bodyPost_ret (results_ct rfl _ _ w.heap.size 31 #[.int .i64 8, .int .i64 a, .int .i64 b, .int .i64 0, .int .i64 0, .string ⟨#[]⟩, .int .i64 0, .int .i64 0, .string ⟨#[]⟩] (0, 0) _ rfl ?hc Tryz.underlying31 rfl (by kernel_rfl)) rfl ?_
          case hc => exact nine_set HQ4.out.r
          exact ⟨rfl, below_sets9 HQ4.out.b (Nat.le_refl _) _ _ _ _ _ _ _ _ _⟩
        · have hne : (p.toList == s.toList) = false := toList_ne hq
          obtain ⟨rfl, rfl⟩ := (show o = rV 0 0 0 0 0 ⟨#[]⟩ 0 0 ⟨#[]⟩ ∧ ok = false from HO.out.elim (fun h => absurd (And.intro h.1 h.2.1) (fun h => hq h.2)) (fun h => h.2))
          obtain ⟨i0, i1, i2, i3, i4, i5, i6, i7, i8⟩ := cells9 HQ4.out.r
          have f0 := Lib.frozen_of_heap HQ4.out.r 0
          have f1 := Lib.frozen_of_heap HQ4.out.r 1
          have f2 := Lib.frozen_of_heap HQ4.out.r 2
          have f3 := Lib.frozen_of_heap HQ4.out.r 3
          have f4 := Lib.frozen_of_heap HQ4.out.r 4
          have f5 := Lib.frozen_of_heap HQ4.out.r 5
          have f6 := Lib.frozen_of_heap HQ4.out.r 6
          have f7 := Lib.frozen_of_heap HQ4.out.r 7
          have f8 := Lib.frozen_of_heap HQ4.out.r 8
          go_wp2_with (fail)
          refine bodyPost_ret (results_ct rfl _ _ w.heap.size 31 #[.int .i64 0, .int .i64 0, .int .i64 0, .int .i64 0, .int .i64 0, .string ⟨#[]⟩, .int .i64 0, .int .i64 0, .string ⟨#[]⟩] (0, 0) _ rfl ?hc Tryz.underlying31 rfl (by kernel_rfl)) rfl ?_
          case hc => exact nine_set HQ4.out.r
          exact ⟨rfl, below_sets9 HQ4.out.b (Nat.le_refl _) _ _ _ _ _ _ _ _ _⟩
end Go.Proofs.YtndgaeldndgioaaGreatDoor.QAll
end

section
/- squelchref30.Parse, walked by hand: a line of kind 9. -/
set_option linter.unusedVariables false
set_option linter.unusedSimpArgs false
namespace Go.Proofs.YtndgaeldndgioaaGreatDoor.QAll
open Go.RowKit Go.Proofs.YtndgaeldndgioaaGreatDoorW.PrintWords Go.Proofs.YtndgaeldndgioaaGreatDoorW.PrintLast Go.Proofs.YtndgaeldndgioaaGreatDoorW.PrintMore
set_option maxHeartbeats 16000000 in
set_option maxRecDepth 100000 in
theorem rparse9 (s l0 w1d w2d w3d w4d : ByteArray) (K1 K2 K3 K4 : Nat) (a : Int) (x : Int) (y : Int) (n : Int) (rb : Bool) (p : ByteArray) (o : Value) (ok : Bool) (w : World) (ho : (rb = true ∧ p = s ∧ o = rV 9 a 0 n 0 ⟨#[]⟩ x y ⟨#[]⟩ ∧ ok = true) ∨ (¬ (rb = true ∧ p = s) ∧ o = rV 0 0 0 0 0 ⟨#[]⟩ 0 0 ⟨#[]⟩ ∧ ok = false)) (hw : squelchref30_words.f K1 s = some [l0, w1d, w2d, w3d, w4d]) (hk : kindUp l0 11 = 9) (ha : squelchref30_number.f K2 w1d = some a) (hx : squelchref30_number.f K2 w2d = some x) (hy : squelchref30_number.f K2 w3d = some y) (hn : squelchref30_number.f K2 w4d = some n)
    (hr : squelchref30_Right.f K3 9 a 0 n 0 ⟨#[]⟩ x y ⟨#[]⟩ = some rb) (hp : rb = true → squelchref30_Print.f 9 a 0 n 0 ⟨#[]⟩ x y ⟨#[]⟩ = some p) :
    Calls Tryz.prog 8 #[.string s] w fun r w' => r = .returned (.tuple #[o, .bool ok]) ∧ Below w.heap.size w w' := by
  have HO := Aside0.mk ho
  clear ho
  have HW := Aside0.mk hw
  have HK := Aside0.mk hk
  have HR := Aside0.mk hr
  have HP := Aside0.mk hp
  have Ja := Aside0.mk ha
  have Jx := Aside0.mk hx
  have Jy := Aside0.mk hy
  have Jn := Aside0.mk hn
  clear hw hk hr hp ha hx hy hn
  go_enter Tryz.func8, Tryz.ntmps8
  go_wp2_with (fail)
  (with_reducible refine (words_at K1 s _ _ HW.out (by simp)).mono ?_)
  rintro e w2 ⟨⟨gw, cw, csw, rfl, hgw, hbw, hcw⟩, hb2⟩
  have HB2 := Aside0.mk (below_step ((Below.refl w.heap.size w).alloc (Nat.le_refl _) _) hb2)
  have HX2 := Aside0.mk ((hb2.block w.heap.size (by simp)).trans (heap_alloc_new w _))
  have HWb := Aside0.mk hbw
  have HCw := Aside0.mk hcw
  have hgw' : w.heap.size < gw := Nat.lt_of_lt_of_le (by simp) hgw
  have hlt2 : gw < w2.heap.size := lt_of_some hbw
  clear hb2 hbw hcw hgw
  have HQ := Aside0.mk (show PX w gw w2.heap.size csw #[.int .i64 0, .int .i64 0, .int .i64 0, .int .i64 0, .int .i64 0, .string ⟨#[]⟩, .int .i64 0, .int .i64 0, .string ⟨#[]⟩] (w2.alloc (.cells #[.int .i64 0, .int .i64 0, .int .i64 0, .int .i64 0, .int .i64 0, .string ⟨#[]⟩, .int .i64 0, .int .i64 0, .string ⟨#[]⟩] 31 (0, 0))) from ⟨below_alloc HB2.out _, (Below.heap_alloc _ _ _ (Nat.lt_trans hgw' hlt2)).trans HX2.out, (Below.heap_alloc _ _ _ hlt2).trans HWb.out, heap_alloc_new _ _, hgw', hlt2⟩)
  clear HB2 HX2 HWb
  go_wp2_with (fail)
  (with_reducible refine (names_bl _).mono ?_)
  rintro e w3 ⟨⟨gn, cn, csn, rfl, hgn, hbn, hcn⟩, hb3⟩
  have HQ3 := Aside0.mk (PX_below HQ.out hb3)
  have HNb := Aside0.mk hbn
  have HCn := Aside0.mk hcn
  have hgn' : w2.heap.size < gn := Nat.lt_of_lt_of_le (by simp) hgn
  clear hb3 HQ hbn hcn hgn
  generalize w2.heap.size = g at HQ3 hgn' hlt2 ⊢
  go_wp2_with (fail)
  go_loopw [7] (fun v7 wr => ∃ (j : Nat), j ≤ 11 ∧ v7 = .int .i64 ((j : Int) + 1) ∧ Aside0 (PX w gw g csw #[.int .i64 (kindUp l0 j : Int), .int .i64 0, .int .i64 0, .int .i64 0, .int .i64 0, .string ⟨#[]⟩, .int .i64 0, .int .i64 0, .string ⟨#[]⟩] wr) ∧ Aside0 (wr.heap[gn]? = some (.cells csn 9 (0, 0)))) (fun v7 _ => 12 - (intOf v7).toNat)
  case atStart => exact ⟨0, by omega, rfl, HQ3, HNb⟩
  case round =>
    obtain ⟨j, hj, rfl, HQj, HNj⟩ := hrel
    clear HQ3 HNb
    have hw0 := cell_of HQj.out.w (HCw.out 0 l0 rfl)
    by_cases hlt : j < 11
    · have hn0 := cell_of HNj.out (HCn.out (j + 1) (nameOf (j + 1)) (by unfold nameOf; rw [List.getD_eq_getElem?_getD, List.getElem?_eq_getElem (show j + 1 < namesL.length by show j + 1 < 12; omega)]; rfl))
      have hj0 : (0 ≤ (j : Int) + 1) = True := eq_true (by omega)
      have hj1 : ((j : Int) + 1 < 12) = True := eq_true (by omega)
      by_cases hq : nameOf (j + 1) = l0
      · have hqb : ((nameOf (j + 1)).toList == l0.toList) = true := by rw [hq]; exact beq_self_eq_true _
        have hup : kindUp l0 (j + 1) = j + 1 := by rw [kindUp, if_pos hq]
        have he0 := cell_of HQj.out.e (j := 0) rfl
        have hf0 := Lib.frozen_of_heap HQj.out.e 0
        go_wp2_with (fail)
        go_region_with (fail)
        all_goals go_wp2_with (fail)
        all_goals (go_roundw; (case rel => exact ⟨j + 1, by omega, rfl, ⟨by rw [hup]; repeat (first | exact PX_set HQj.out 0 _ | apply PX_drew)⟩, ⟨(set_ne HNj.out (show ¬ g = gn by omega) 0 _)⟩⟩); (case measure => simp [intOf]; omega))
      · have hqb : ((nameOf (j + 1)).toList == l0.toList) = false := beq_eq_false_iff_ne.2 (fun h => hq (by
          rw [Go.ByteArray.toList_eq, Go.ByteArray.toList_eq] at h
          generalize nameOf (j + 1) = nm at h
          cases nm; cases l0
          congr 1
          exact Array.ext' h))
        have hup : kindUp l0 (j + 1) = kindUp l0 j := by rw [kindUp, if_neg hq]
        go_wp2_with (fail)
        go_region_with (fail)
        all_goals go_wp2_with (fail)
        all_goals (go_roundw; (case rel => exact ⟨j + 1, by omega, rfl, ⟨by rw [hup]; repeat (first | exact HQj.out | apply PX_drew)⟩, ⟨HNj.out⟩⟩); (case measure => simp [intOf]; omega))
    · obtain rfl : j = 11 := by omega
      rw [HK.out] at HQj
      have HQ4 := Aside0.mk (show PX w gw g csw #[.int .i64 9, .int .i64 0, .int .i64 0, .int .i64 0, .int .i64 0, .string ⟨#[]⟩, .int .i64 0, .int .i64 0, .string ⟨#[]⟩] wr from HQj.out)
      have HQ0 := Aside0.mk (PX_alloc HQ4.out (.cells #[.int .i64 0, .int .i64 3, .int .i64 3, .int .i64 2, .int .i64 2, .int .i64 3, .int .i64 5, .int .i64 3, .int .i64 3, .int .i64 5, .int .i64 4, .int .i64 4] 3 (0, 0)))
      have HN5 := Aside0.mk (heap_alloc_new wr (.cells #[.int .i64 0, .int .i64 3, .int .i64 3, .int .i64 2, .int .i64 2, .int .i64 3, .int .i64 5, .int .i64 3, .int .i64 3, .int .i64 5, .int .i64 4, .int .i64 4] 3 (0, 0)))
      generalize hw6 : wr.alloc (.cells #[.int .i64 0, .int .i64 3, .int .i64 3, .int .i64 2, .int .i64 2, .int .i64 3, .int .i64 5, .int .i64 3, .int .i64 3, .int .i64 5, .int .i64 4, .int .i64 4] 3 (0, 0)) = v0 at HQ0 HN5
      clear HQj HQ4 HNj hw0
      obtain ⟨k0, k1, k2, k3, k4, k5, k6, k7, k8⟩ := cells9 HQ0.out.e
      have hn := cell_of HN5.out (j := 9) rfl
      have hwj := cell_of HQ0.out.w (HCw.out 1 _ rfl)
      go_wp2_with (fail)
      (with_reducible refine (squelchref30_number.calls K2 w1d a _ Ja.out).mono ?_)
      rintro r v1 ⟨rfl, hd⟩
      have HQ1 := Aside0.mk (show PX w gw g csw #[.int .i64 9, .int .i64 0, .int .i64 0, .int .i64 0, .int .i64 0, .string ⟨#[]⟩, .int .i64 0, .int .i64 0, .string ⟨#[]⟩] v1 from PX_below HQ0.out hd.below)
      clear HQ0 hd hwj hn hw6 HN5 k0 k1 k2 k3 k4 k5 k6 k7 k8
      obtain ⟨k0, k1, k2, k3, k4, k5, k6, k7, k8⟩ := cells9 HQ1.out.e
      have f1 := Lib.frozen_of_heap HQ1.out.e 1
      have HQ2 := Aside0.mk (show PX w gw g csw #[.int .i64 9, .int .i64 a, .int .i64 0, .int .i64 0, .int .i64 0, .string ⟨#[]⟩, .int .i64 0, .int .i64 0, .string ⟨#[]⟩] (v1.setCell ⟨g, 1, none⟩ (.int .i64 a)) from PX_set HQ1.out 1 (.int .i64 a))
      generalize hwv : v1.setCell ⟨g, 1, none⟩ (.int .i64 a) = v2 at HQ2
      obtain ⟨m0, m1, m2, m3, m4, m5, m6, m7, m8⟩ := cells9 HQ2.out.e
      have hwj1 := cell_of HQ2.out.w (HCw.out 2 _ rfl)
      have hwj2 := cell_of HQ2.out.w (HCw.out 3 _ rfl)
      have f6 := Lib.frozen_of_heap HQ2.out.e 6
      have f7 := Lib.frozen_of_heap HQ2.out.e 7
      go_wp2_with (fail)
      clear HQ1 k0 k1 k2 k3 k4 k5 k6 k7 k8 f1 hwv
      go_region_with (first | (go_at_call 20; (first | (with_reducible refine (squelchref30_number.calls K2 w2d x _ Jx.out).mono ?_) | (with_reducible refine (squelchref30_number.calls K2 w3d y _ Jy.out).mono ?_)); rintro r v' ⟨rfl, ⟨nd, rfl⟩⟩))
      all_goals (
        have hwj := cell_of HQ2.out.w (HCw.out 4 _ rfl)
        go_wp2_with (fail)
        (with_reducible refine (squelchref30_number.calls K2 w4d n _ Jn.out).mono ?_)
        rintro r v3 ⟨rfl, hd⟩
        have HQ3 : Aside0 (PX w gw g csw #[.int .i64 9, .int .i64 a, .int .i64 0, .int .i64 0, .int .i64 0, .string ⟨#[]⟩, .int .i64 x, .int .i64 y, .string ⟨#[]⟩] v3) := by
          refine ⟨PX_to' hd.below ?_⟩
          apply Exists.intro
          apply And.intro
          · repeat (first | exact HQ2.out | apply PX_set | apply PX_drewN | apply PX_drew)
          · rfl
        clear HQ2 hd hwj hwj1 hwj2 m0 m1 m2 m3 m4 m5 m6 m7 m8 f6 f7
        obtain ⟨k0, k1, k2, k3, k4, k5, k6, k7, k8⟩ := cells9 HQ3.out.e
        have f3 := Lib.frozen_of_heap HQ3.out.e 3
        go_wp2_with (fail)
        (with_reducible refine (squelchref30_Right.calls K3 9 a 0 n 0 ⟨#[]⟩ x y ⟨#[]⟩ rb _ HR.out).mono ?_)
        rintro r v4 ⟨rfl, hd⟩
        have HQ4 : Aside0 (PX w gw g csw #[.int .i64 9, .int .i64 a, .int .i64 0, .int .i64 n, .int .i64 0, .string ⟨#[]⟩, .int .i64 x, .int .i64 y, .string ⟨#[]⟩] v4) := by
          refine ⟨PX_to' hd ?_⟩
          apply Exists.intro
          apply And.intro
          · repeat (first | exact HQ3.out | apply PX_set | apply PX_drewN | apply PX_drew)
          · rfl
        clear HQ3 hd k0 k1 k2 k3 k4 k5 k6 k7 k8
        obtain ⟨k0, k1, k2, k3, k4, k5, k6, k7, k8⟩ := cells9 HQ4.out.e
        cases rb with
        | false =>
          obtain ⟨rfl, rfl⟩ := (show o = rV 0 0 0 0 0 ⟨#[]⟩ 0 0 ⟨#[]⟩ ∧ ok = false from HO.out.elim (fun h => absurd (And.intro h.1 h.2.1) (fun h => Bool.false_ne_true h.1)) (fun h => h.2))
          obtain ⟨i0, i1, i2, i3, i4, i5, i6, i7, i8⟩ := cells9 HQ4.out.r
          have f0 := Lib.frozen_of_heap HQ4.out.r 0
          have f1 := Lib.frozen_of_heap HQ4.out.r 1
          have f2 := Lib.frozen_of_heap HQ4.out.r 2
          have f3 := Lib.frozen_of_heap HQ4.out.r 3
          have f4 := Lib.frozen_of_heap HQ4.out.r 4
          have f5 := Lib.frozen_of_heap HQ4.out.r 5
          have f6 := Lib.frozen_of_heap HQ4.out.r 6
          have f7 := Lib.frozen_of_heap HQ4.out.r 7
          have f8 := Lib.frozen_of_heap HQ4.out.r 8
          go_wp2_with (fail)
          refine bodyPost_ret (results_ct rfl _ _ w.heap.size 31 #[.int .i64 0, .int .i64 0, .int .i64 0, .int .i64 0, .int .i64 0, .string ⟨#[]⟩, .int .i64 0, .int .i64 0, .string ⟨#[]⟩] (0, 0) _ rfl ?hc Tryz.underlying31 rfl (by kernel_rfl)) rfl ?_
          case hc => exact nine_set HQ4.out.r
          exact ⟨rfl, below_sets9 HQ4.out.b (Nat.le_refl _) _ _ _ _ _ _ _ _ _⟩
        | true =>
          go_wp2_with (fail)
          (with_reducible refine (squelchref30_Print.calls 9 a 0 n 0 ⟨#[]⟩ x y ⟨#[]⟩ p _ (HP.out (by first | rfl | trivial))).mono ?_)
          rintro r v5 ⟨rfl, hd⟩
          have HQ5 := Aside0.mk (PX_below HQ4.out hd)
          clear HQ4 hd k0 k1 k2 k3 k4 k5 k6 k7 k8
          obtain ⟨k0, k1, k2, k3, k4, k5, k6, k7, k8⟩ := cells9 HQ5.out.e
          by_cases hq : p = s
          · obtain ⟨rfl, rfl⟩ := (show o = rV 9 a 0 n 0 ⟨#[]⟩ x y ⟨#[]⟩ ∧ ok = true from HO.out.elim (fun h => h.2.2) (fun h => absurd hq (fun e => h.1 ⟨by first | rfl | trivial, e⟩)))
            subst hq
            obtain ⟨i0, i1, i2, i3, i4, i5, i6, i7, i8⟩ := cells9 HQ5.out.r
            have f0 := Lib.frozen_of_heap HQ5.out.r 0
            have f1 := Lib.frozen_of_heap HQ5.out.r 1
            have f2 := Lib.frozen_of_heap HQ5.out.r 2
            have f3 := Lib.frozen_of_heap HQ5.out.r 3
            have f4 := Lib.frozen_of_heap HQ5.out.r 4
            have f5 := Lib.frozen_of_heap HQ5.out.r 5
            have f6 := Lib.frozen_of_heap HQ5.out.r 6
            have f7 := Lib.frozen_of_heap HQ5.out.r 7
            have f8 := Lib.frozen_of_heap HQ5.out.r 8
            go_wp2_with (fail)
            refine bodyPost_ret (results_ct rfl _ _ w.heap.size 31 #[.int .i64 9, .int .i64 a, .int .i64 0, .int .i64 n, .int .i64 0, .string ⟨#[]⟩, .int .i64 x, .int .i64 y, .string ⟨#[]⟩] (0, 0) _ rfl ?hc Tryz.underlying31 rfl (by kernel_rfl)) rfl ?_
            case hc => exact nine_set HQ5.out.r
            exact ⟨rfl, below_sets9 HQ5.out.b (Nat.le_refl _) _ _ _ _ _ _ _ _ _⟩
          · have hne : (p.toList == s.toList) = false := toList_ne hq
            obtain ⟨rfl, rfl⟩ := (show o = rV 0 0 0 0 0 ⟨#[]⟩ 0 0 ⟨#[]⟩ ∧ ok = false from HO.out.elim (fun h => absurd (And.intro h.1 h.2.1) (fun h => hq h.2)) (fun h => h.2))
            obtain ⟨i0, i1, i2, i3, i4, i5, i6, i7, i8⟩ := cells9 HQ5.out.r
            have f0 := Lib.frozen_of_heap HQ5.out.r 0
            have f1 := Lib.frozen_of_heap HQ5.out.r 1
            have f2 := Lib.frozen_of_heap HQ5.out.r 2
            have f3 := Lib.frozen_of_heap HQ5.out.r 3
            have f4 := Lib.frozen_of_heap HQ5.out.r 4
            have f5 := Lib.frozen_of_heap HQ5.out.r 5
            have f6 := Lib.frozen_of_heap HQ5.out.r 6
            have f7 := Lib.frozen_of_heap HQ5.out.r 7
            have f8 := Lib.frozen_of_heap HQ5.out.r 8
            go_wp2_with (fail)
            refine bodyPost_ret (results_ct rfl _ _ w.heap.size 31 #[.int .i64 0, .int .i64 0, .int .i64 0, .int .i64 0, .int .i64 0, .string ⟨#[]⟩, .int .i64 0, .int .i64 0, .string ⟨#[]⟩] (0, 0) _ rfl ?hc Tryz.underlying31 rfl (by kernel_rfl)) rfl ?_
            case hc => exact nine_set HQ5.out.r
            exact ⟨rfl, below_sets9 HQ5.out.b (Nat.le_refl _) _ _ _ _ _ _ _ _ _⟩)
end Go.Proofs.YtndgaeldndgioaaGreatDoor.QAll
end
