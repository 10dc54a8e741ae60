/- Words, walks and plain laws that the row of the law PathGoes rests on. -/
import Derived.Test.YtpmieapgbdbabaaDoorMPathGoes4
section
/- Walks, written by a program of this session (wip/pp): a Go function comes to what the Lean function beside it tells. -/
namespace Go.Proofs.YtpmieapgbdbabaaDoor.QAll
open Go.RowKit Go.Proofs.YtpmieapgbdbabaaDoorW.PrintWords Go.Proofs.YtpmieapgbdbabaaDoorW.PrintLast Go.Proofs.YtpmieapgbdbabaaDoorW.PrintMore
attribute [local go_sem] max2_int min2_int max_two min_two max_three min_three max_four min_four
set_option linter.unusedVariables false
set_option linter.unusedSimpArgs false
attribute [local go_sem high] eqA23
set_option maxHeartbeats 8000000 in
set_option maxRecDepth 100000 in
theorem squelchlaw05_PathGoes.calls_f (k : Nat) (a0_0 : ByteArray) (a0_1 : Int) (a0_2 : ByteArray) (a0_3 : Int) (a0_4 : Bool) (a0_5 : Bool) (A0_6 : Option Addr) (c0_6 : Nat) (l0_6 : List (S93)) (r : Bool) (w : World) (hT_ : r = true) (hr0_6 : Kd.C k93 w A0_6 l0_6.length l0_6) (hc0_6 : l0_6.length ≤ c0_6) (hS_ : a0_4 = false) (h : squelchlaw05_PathGoes.f k a0_0 a0_1 a0_2 a0_3 a0_4 a0_5 l0_6 = some r) :
  Calls Tryd.prog 3 #[.agg #[.string a0_0, .int .i64 a0_1, .string a0_2, .int .i64 a0_3, .bool a0_4, .bool a0_5, .slice A0_6 l0_6.length c0_6]] w fun e w' => e = .returned (.bool r) ∧ Below w.heap.size w w' := by
 have HS_ := Aside0.mk hS_
 clear hS_
 have hu26 := Tryd.underlying26
 have hu31 := Tryd.underlying31
 have hu23 := Tryd.underlying23
 have HR0_6 := Aside0.mk hr0_6
 have HC0_6 := Aside0.mk hc0_6
 clear hr0_6 hc0_6
 have HB := Aside0.mk (Below.refl w.heap.size w)
 have HT_ := Aside0.mk hT_
 clear hT_
 have H : ((squelchlaw05_awake.f).bind fun t192 => (if t192 = true then ((squelchlaw05_great.f a0_0 a0_1 a0_2 a0_3 a0_4 a0_5 l0_6).bind fun t193 => (if t193 = true then (some true) else ((squelchlaw05_Plain.f k a0_0 a0_1 a0_2 a0_3 a0_4 a0_5 l0_6).bind fun t194 => ((path_Next.f a0_0 a0_1 a0_2 a0_3 a0_4 a0_5 l0_6).bind fun bt198 => ((squelchref05_Next.f k t194).bind fun t202 => (if (bt198.2.2 != (decide (t202 ≥ 0))) = true then (squelchlaw05_PathGoes.j0 k true a0_0 a0_1 a0_2 a0_3 a0_4 a0_5 l0_6 t194) else (if bt198.2.2 = true then (if 0 ≤ t202 then (if t202 < (t194.length : Int) then (if (!(bt198.1.toList == (((rd_T37 t194 t202).f0.f0).toList)) || (!(bt198.2.1 == ((rd_T37 t194 t202).f0.f1)))) = true then (squelchlaw05_PathGoes.j0 k true a0_0 a0_1 a0_2 a0_3 a0_4 a0_5 l0_6 t194) else (squelchlaw05_PathGoes.j0 k false a0_0 a0_1 a0_2 a0_3 a0_4 a0_5 l0_6 t194)) else (none)) else (none)) else (squelchlaw05_PathGoes.j0 k (!(bt198.1.toList == ([] : List UInt8)) || (!(bt198.2.1 == 0))) a0_0 a0_1 a0_2 a0_3 a0_4 a0_5 l0_6 t194)))))))) else (some false))) = some r := h
 clear h
 replace H := Option.bind_eq_some_iff.mp H
 obtain ⟨t192, A20, H⟩ := H
 replace H : (if t192 = true then ((squelchlaw05_great.f a0_0 a0_1 a0_2 a0_3 a0_4 a0_5 l0_6).bind fun t193 => (if t193 = true then (some true) else ((squelchlaw05_Plain.f k a0_0 a0_1 a0_2 a0_3 a0_4 a0_5 l0_6).bind fun t194 => ((path_Next.f a0_0 a0_1 a0_2 a0_3 a0_4 a0_5 l0_6).bind fun bt198 => ((squelchref05_Next.f k t194).bind fun t202 => (if (bt198.2.2 != (decide (t202 ≥ 0))) = true then (squelchlaw05_PathGoes.j0 k true a0_0 a0_1 a0_2 a0_3 a0_4 a0_5 l0_6 t194) else (if bt198.2.2 = true then (if 0 ≤ t202 then (if t202 < (t194.length : Int) then (if (!(bt198.1.toList == (((rd_T37 t194 t202).f0.f0).toList)) || (!(bt198.2.1 == ((rd_T37 t194 t202).f0.f1)))) = true then (squelchlaw05_PathGoes.j0 k true a0_0 a0_1 a0_2 a0_3 a0_4 a0_5 l0_6 t194) else (squelchlaw05_PathGoes.j0 k false a0_0 a0_1 a0_2 a0_3 a0_4 a0_5 l0_6 t194)) else (none)) else (none)) else (squelchlaw05_PathGoes.j0 k (!(bt198.1.toList == ([] : List UInt8)) || (!(bt198.2.1 == 0))) a0_0 a0_1 a0_2 a0_3 a0_4 a0_5 l0_6 t194)))))))) else (some false)) = some r := H
 have A2 := Aside0.mk A20
 clear A20
 by_cases c3 : t192 = true
 ·subst c3
  have H1 : ((squelchlaw05_great.f a0_0 a0_1 a0_2 a0_3 a0_4 a0_5 l0_6).bind fun t193 => (if t193 = true then (some true) else ((squelchlaw05_Plain.f k a0_0 a0_1 a0_2 a0_3 a0_4 a0_5 l0_6).bind fun t194 => ((path_Next.f a0_0 a0_1 a0_2 a0_3 a0_4 a0_5 l0_6).bind fun bt198 => ((squelchref05_Next.f k t194).bind fun t202 => (if (bt198.2.2 != (decide (t202 ≥ 0))) = true then (squelchlaw05_PathGoes.j0 k true a0_0 a0_1 a0_2 a0_3 a0_4 a0_5 l0_6 t194) else (if bt198.2.2 = true then (if 0 ≤ t202 then (if t202 < (t194.length : Int) then (if (!(bt198.1.toList == (((rd_T37 t194 t202).f0.f0).toList)) || (!(bt198.2.1 == ((rd_T37 t194 t202).f0.f1)))) = true then (squelchlaw05_PathGoes.j0 k true a0_0 a0_1 a0_2 a0_3 a0_4 a0_5 l0_6 t194) else (squelchlaw05_PathGoes.j0 k false a0_0 a0_1 a0_2 a0_3 a0_4 a0_5 l0_6 t194)) else (none)) else (none)) else (squelchlaw05_PathGoes.j0 k (!(bt198.1.toList == ([] : List UInt8)) || (!(bt198.2.1 == 0))) a0_0 a0_1 a0_2 a0_3 a0_4 a0_5 l0_6 t194)))))))) = some r := by rw [if_pos rfl] at H; exact H
  clear H
  have H := H1
  clear H1
  replace H := Option.bind_eq_some_iff.mp H
  obtain ⟨t193, A40, H⟩ := H
  replace H : (if t193 = true then (some true) else ((squelchlaw05_Plain.f k a0_0 a0_1 a0_2 a0_3 a0_4 a0_5 l0_6).bind fun t194 => ((path_Next.f a0_0 a0_1 a0_2 a0_3 a0_4 a0_5 l0_6).bind fun bt198 => ((squelchref05_Next.f k t194).bind fun t202 => (if (bt198.2.2 != (decide (t202 ≥ 0))) = true then (squelchlaw05_PathGoes.j0 k true a0_0 a0_1 a0_2 a0_3 a0_4 a0_5 l0_6 t194) else (if bt198.2.2 = true then (if 0 ≤ t202 then (if t202 < (t194.length : Int) then (if (!(bt198.1.toList == (((rd_T37 t194 t202).f0.f0).toList)) || (!(bt198.2.1 == ((rd_T37 t194 t202).f0.f1)))) = true then (squelchlaw05_PathGoes.j0 k true a0_0 a0_1 a0_2 a0_3 a0_4 a0_5 l0_6 t194) else (squelchlaw05_PathGoes.j0 k false a0_0 a0_1 a0_2 a0_3 a0_4 a0_5 l0_6 t194)) else (none)) else (none)) else (squelchlaw05_PathGoes.j0 k (!(bt198.1.toList == ([] : List UInt8)) || (!(bt198.2.1 == 0))) a0_0 a0_1 a0_2 a0_3 a0_4 a0_5 l0_6 t194))))))) = some r := H
  have A4 := Aside0.mk A40
  clear A40
  by_cases c5 : t193 = true
  ·subst c5
   have H1 : (some true) = some r := by rw [if_pos rfl] at H; exact H
   clear H
   have H := H1
   clear H1
   obtain rfl := Option.some.inj H
   go_enter Tryd.func3, Tryd.ntmps3
   go_wp2_with (first | ((with_reducible refine gate_dst (N := 1) rfl ?_); refine box_event ?hg (N := 1) ?hd (cs := #[.string a0_0, .int .i64 a0_1, .string a0_2, .int .i64 a0_3, .bool a0_4, .bool a0_5, .slice A0_6 l0_6.length c0_6]) (t := 26) ?hr ?_; (case hd => rfl); (case hg => rfl); (case hr => first | (go_simp; done) | (go_simp; rfl)); intro gb191 hg w6 hbox hb; have n0_ := Aside0.mk (below_step (by repeat (first | (with_reducible first | exact HB.out | apply below_alloc | apply pw_below_drewN | apply below_drew1) | exact HB.out)) hb); have n1_ := Aside0.mk (hbox); have n2_ := Aside0.mk ((by rw [hg]; exact (below_size (by repeat (first | (with_reducible first | exact HB.out | apply below_alloc | apply pw_below_drewN | apply below_drew1) | exact HB.out))) : w.heap.size ≤ gb191)); have n3_ := Aside0.mk ((by rw [hg]; exact (below_size (by repeat (first | (with_reducible first | exact HB.out | apply below_alloc | apply pw_below_drewN | apply below_drew1) | exact HB.out))) : w.heap.size ≤ gb191)); clear HB; have HB := n0_; have BK191 := n1_; have GW191 := n2_; have GE191 := n3_; clear n0_ n1_ n2_ n3_; clear hb hbox hg) | ((with_reducible refine gate_callee (f := 15) rfl ?_); refine goesL_ (some 12) rfl rfl Tryd.func15 (by kernel_rfl) rfl #[] rfl (by (try simp only [List.map_toArray, List.map_cons, List.map_nil]); first | done | rfl | (simp only [List.length_drop, List.length_take]; rfl)) ?_; (with_reducible refine (squelchlaw05_awake.calls  true _ A2.out).mono ?_); rintro e w7 ⟨rfl, hb⟩; refine ⟨_, rfl, ?_⟩; have n0_ := Aside0.mk (blk_below (g := gb191) (o := .cells #[.string a0_0, .int .i64 a0_1, .string a0_2, .int .i64 a0_3, .bool a0_4, .bool a0_5, .slice A0_6 l0_6.length c0_6] 26 (0, 0)) (by (with_reducible repeat (first | refine blk_drewN ?_ _ | refine blk_drew ?_ | refine blk_alloc ?_ _)); exact BK191.out) hb); have n1_ := Aside0.mk (below_step (by repeat (first | (with_reducible first | exact HB.out | apply below_alloc | apply pw_below_drewN | apply below_drew1 | refine below_set ?_ GE191.out) | exact HB.out)) hb); clear BK191; clear HB; have BK191 := n0_; have HB := n1_; clear n0_ n1_; (try clear hb); (try clear hb2); (try clear hk); (try clear hi); have hcz8_0 : w7.cell? ⟨gb191, 0, none⟩ = some (.string a0_0) := (blk_cell BK191.out 0).trans rfl; have hcz8_1 : w7.cell? ⟨gb191, 1, none⟩ = some (.int .i64 a0_1) := (blk_cell BK191.out 1).trans rfl; have hcz8_2 : w7.cell? ⟨gb191, 2, none⟩ = some (.string a0_2) := (blk_cell BK191.out 2).trans rfl; have hcz8_3 : w7.cell? ⟨gb191, 3, none⟩ = some (.int .i64 a0_3) := (blk_cell BK191.out 3).trans rfl; have hcz8_4 : w7.cell? ⟨gb191, 4, none⟩ = some (.bool a0_4) := (blk_cell BK191.out 4).trans rfl; have hcz8_5 : w7.cell? ⟨gb191, 5, none⟩ = some (.bool a0_5) := (blk_cell BK191.out 5).trans rfl; have hcz8_6 : w7.cell? ⟨gb191, 6, none⟩ = some (.slice A0_6 l0_6.length c0_6) := (blk_cell BK191.out 6).trans rfl; have hfz8_0 := blk_frozen BK191.out 0; have hfz8_1 := blk_frozen BK191.out 1; have hfz8_2 := blk_frozen BK191.out 2; have hfz8_3 := blk_frozen BK191.out 3; have hfz8_4 := blk_frozen BK191.out 4; have hfz8_5 := blk_frozen BK191.out 5; have hfz8_6 := blk_frozen BK191.out 6) | ((with_reducible refine gate_callee (f := 16) rfl ?_); refine goesL_ (some 15) rfl rfl Tryd.func16 (by kernel_rfl) rfl #[.agg #[.string a0_0, .int .i64 a0_1, .string a0_2, .int .i64 a0_3, .bool a0_4, .bool a0_5, .slice A0_6 l0_6.length c0_6]] rfl (by (try simp only [List.map_toArray, List.map_cons, List.map_nil]); first | done | rfl | (simp only [List.length_drop, List.length_take]; rfl)) ?_; (with_reducible refine (squelchlaw05_great.calls a0_0 a0_1 a0_2 a0_3 a0_4 a0_5 _ _ l0_6 true _ ?side1 ?side2 A4.out).mono ?_); (case side1 => repeat (first | exact (Kd.C_below HR0_6.out HB.out) | (with_reducible refine Kd.C_alloc ?_ _) | (with_reducible refine Kd.C_drewN ?_ _) | (with_reducible refine Kd.C_drew ?_))); (case side2 => exact HC0_6.out); rintro e w9 ⟨rfl, hb⟩; refine ⟨_, rfl, ?_⟩; have n0_ := Aside0.mk (blk_below (g := gb191) (o := .cells #[.string a0_0, .int .i64 a0_1, .string a0_2, .int .i64 a0_3, .bool a0_4, .bool a0_5, .slice A0_6 l0_6.length c0_6] 26 (0, 0)) (by (with_reducible repeat (first | refine blk_drewN ?_ _ | refine blk_drew ?_ | refine blk_alloc ?_ _)); exact BK191.out) hb); have n1_ := Aside0.mk (below_step (by repeat (first | (with_reducible first | exact HB.out | apply below_alloc | apply pw_below_drewN | apply below_drew1 | refine below_set ?_ GE191.out) | exact HB.out)) hb); clear BK191; clear HB; have BK191 := n0_; have HB := n1_; clear n0_ n1_; (try clear hb); (try clear hb2); (try clear hk); (try clear hi)))
   go_ret
   exact ⟨by first | rfl | (simp [errW_none, errW_some] <;> rfl) | (simp [*, errW_none, errW_some] <;> rfl), by repeat (first | (with_reducible first | exact HB.out | apply below_alloc | apply pw_below_drewN | apply below_drew1 | refine below_set ?_ GE191.out) | exact HB.out)⟩
  ·replace c5 := Bool.eq_false_iff.mpr c5
   subst c5
   have H1 : ((squelchlaw05_Plain.f k a0_0 a0_1 a0_2 a0_3 a0_4 a0_5 l0_6).bind fun t194 => ((path_Next.f a0_0 a0_1 a0_2 a0_3 a0_4 a0_5 l0_6).bind fun bt198 => ((squelchref05_Next.f k t194).bind fun t202 => (if (bt198.2.2 != (decide (t202 ≥ 0))) = true then (squelchlaw05_PathGoes.j0 k true a0_0 a0_1 a0_2 a0_3 a0_4 a0_5 l0_6 t194) else (if bt198.2.2 = true then (if 0 ≤ t202 then (if t202 < (t194.length : Int) then (if (!(bt198.1.toList == (((rd_T37 t194 t202).f0.f0).toList)) || (!(bt198.2.1 == ((rd_T37 t194 t202).f0.f1)))) = true then (squelchlaw05_PathGoes.j0 k true a0_0 a0_1 a0_2 a0_3 a0_4 a0_5 l0_6 t194) else (squelchlaw05_PathGoes.j0 k false a0_0 a0_1 a0_2 a0_3 a0_4 a0_5 l0_6 t194)) else (none)) else (none)) else (squelchlaw05_PathGoes.j0 k (!(bt198.1.toList == ([] : List UInt8)) || (!(bt198.2.1 == 0))) a0_0 a0_1 a0_2 a0_3 a0_4 a0_5 l0_6 t194)))))) = some r := by rw [if_neg (show ¬ (false = true) by decide)] at H; exact H
   clear H
   have H := H1
   clear H1
   replace H := Option.bind_eq_some_iff.mp H
   obtain ⟨t194, A100, H⟩ := H
   replace H : ((path_Next.f a0_0 a0_1 a0_2 a0_3 a0_4 a0_5 l0_6).bind fun bt198 => ((squelchref05_Next.f k t194).bind fun t202 => (if (bt198.2.2 != (decide (t202 ≥ 0))) = true then (squelchlaw05_PathGoes.j0 k true a0_0 a0_1 a0_2 a0_3 a0_4 a0_5 l0_6 t194) else (if bt198.2.2 = true then (if 0 ≤ t202 then (if t202 < (t194.length : Int) then (if (!(bt198.1.toList == (((rd_T37 t194 t202).f0.f0).toList)) || (!(bt198.2.1 == ((rd_T37 t194 t202).f0.f1)))) = true then (squelchlaw05_PathGoes.j0 k true a0_0 a0_1 a0_2 a0_3 a0_4 a0_5 l0_6 t194) else (squelchlaw05_PathGoes.j0 k false a0_0 a0_1 a0_2 a0_3 a0_4 a0_5 l0_6 t194)) else (none)) else (none)) else (squelchlaw05_PathGoes.j0 k (!(bt198.1.toList == ([] : List UInt8)) || (!(bt198.2.1 == 0))) a0_0 a0_1 a0_2 a0_3 a0_4 a0_5 l0_6 t194))))) = some r := H
   have A10 := Aside0.mk A100
   clear A100
   replace H := Option.bind_eq_some_iff.mp H
   obtain ⟨⟨t198, t199, t200⟩, A110, H⟩ := H
   replace H : ((squelchref05_Next.f k t194).bind fun t202 => (if (t200 != (decide (t202 ≥ 0))) = true then (squelchlaw05_PathGoes.j0 k true a0_0 a0_1 a0_2 a0_3 a0_4 a0_5 l0_6 t194) else (if t200 = true then (if 0 ≤ t202 then (if t202 < (t194.length : Int) then (if (!(t198.toList == (((rd_T37 t194 t202).f0.f0).toList)) || (!(t199 == ((rd_T37 t194 t202).f0.f1)))) = true then (squelchlaw05_PathGoes.j0 k true a0_0 a0_1 a0_2 a0_3 a0_4 a0_5 l0_6 t194) else (squelchlaw05_PathGoes.j0 k false a0_0 a0_1 a0_2 a0_3 a0_4 a0_5 l0_6 t194)) else (none)) else (none)) else (squelchlaw05_PathGoes.j0 k (!(t198.toList == ([] : List UInt8)) || (!(t199 == 0))) a0_0 a0_1 a0_2 a0_3 a0_4 a0_5 l0_6 t194)))) = some r := H
   have A11 := Aside0.mk A110
   clear A110
   replace H := Option.bind_eq_some_iff.mp H
   obtain ⟨t202, A120, H⟩ := H
   replace H : (if (t200 != (decide (t202 ≥ 0))) = true then (squelchlaw05_PathGoes.j0 k true a0_0 a0_1 a0_2 a0_3 a0_4 a0_5 l0_6 t194) else (if t200 = true then (if 0 ≤ t202 then (if t202 < (t194.length : Int) then (if (!(t198.toList == (((rd_T37 t194 t202).f0.f0).toList)) || (!(t199 == ((rd_T37 t194 t202).f0.f1)))) = true then (squelchlaw05_PathGoes.j0 k true a0_0 a0_1 a0_2 a0_3 a0_4 a0_5 l0_6 t194) else (squelchlaw05_PathGoes.j0 k false a0_0 a0_1 a0_2 a0_3 a0_4 a0_5 l0_6 t194)) else (none)) else (none)) else (squelchlaw05_PathGoes.j0 k (!(t198.toList == ([] : List UInt8)) || (!(t199 == 0))) a0_0 a0_1 a0_2 a0_3 a0_4 a0_5 l0_6 t194))) = some r := H
   have A12 := Aside0.mk A120
   clear A120
   have HC13 := Aside0.mk H
   clear H
   go_enter Tryd.func3, Tryd.ntmps3
   go_upto_region 8 with (first | ((with_reducible refine gate_dst (N := 1) rfl ?_); refine box_event ?hg (N := 1) ?hd (cs := #[.string a0_0, .int .i64 a0_1, .string a0_2, .int .i64 a0_3, .bool a0_4, .bool a0_5, .slice A0_6 l0_6.length c0_6]) (t := 26) ?hr ?_; (case hd => rfl); (case hg => rfl); (case hr => first | (go_simp; done) | (go_simp; rfl)); intro gb191 hg w14 hbox hb; have n0_ := Aside0.mk (below_step (by repeat (first | (with_reducible first | exact HB.out | apply below_alloc | apply pw_below_drewN | apply below_drew1) | exact HB.out)) hb); have n1_ := Aside0.mk (hbox); have n2_ := Aside0.mk ((by rw [hg]; exact (below_size (by repeat (first | (with_reducible first | exact HB.out | apply below_alloc | apply pw_below_drewN | apply below_drew1) | exact HB.out))) : w.heap.size ≤ gb191)); have n3_ := Aside0.mk ((by rw [hg]; exact (below_size (by repeat (first | (with_reducible first | exact HB.out | apply below_alloc | apply pw_below_drewN | apply below_drew1) | exact HB.out))) : w.heap.size ≤ gb191)); clear HB; have HB := n0_; have BK191 := n1_; have GW191 := n2_; have GE191 := n3_; clear n0_ n1_ n2_ n3_; clear hb hbox hg) | ((with_reducible refine gate_callee (f := 15) rfl ?_); refine goesL_ (some 12) rfl rfl Tryd.func15 (by kernel_rfl) rfl #[] rfl (by (try simp only [List.map_toArray, List.map_cons, List.map_nil]); first | done | rfl | (simp only [List.length_drop, List.length_take]; rfl)) ?_; (with_reducible refine (squelchlaw05_awake.calls  true _ A2.out).mono ?_); rintro e w15 ⟨rfl, hb⟩; refine ⟨_, rfl, ?_⟩; have n0_ := Aside0.mk (blk_below (g := gb191) (o := .cells #[.string a0_0, .int .i64 a0_1, .string a0_2, .int .i64 a0_3, .bool a0_4, .bool a0_5, .slice A0_6 l0_6.length c0_6] 26 (0, 0)) (by (with_reducible repeat (first | refine blk_drewN ?_ _ | refine blk_drew ?_ | refine blk_alloc ?_ _)); exact BK191.out) hb); have n1_ := Aside0.mk (below_step (by repeat (first | (with_reducible first | exact HB.out | apply below_alloc | apply pw_below_drewN | apply below_drew1 | refine below_set ?_ GE191.out) | exact HB.out)) hb); clear BK191; clear HB; have BK191 := n0_; have HB := n1_; clear n0_ n1_; (try clear hb); (try clear hb2); (try clear hk); (try clear hi); have hcz16_0 : w15.cell? ⟨gb191, 0, none⟩ = some (.string a0_0) := (blk_cell BK191.out 0).trans rfl; have hcz16_1 : w15.cell? ⟨gb191, 1, none⟩ = some (.int .i64 a0_1) := (blk_cell BK191.out 1).trans rfl; have hcz16_2 : w15.cell? ⟨gb191, 2, none⟩ = some (.string a0_2) := (blk_cell BK191.out 2).trans rfl; have hcz16_3 : w15.cell? ⟨gb191, 3, none⟩ = some (.int .i64 a0_3) := (blk_cell BK191.out 3).trans rfl; have hcz16_4 : w15.cell? ⟨gb191, 4, none⟩ = some (.bool a0_4) := (blk_cell BK191.out 4).trans rfl; have hcz16_5 : w15.cell? ⟨gb191, 5, none⟩ = some (.bool a0_5) := (blk_cell BK191.out 5).trans rfl; have hcz16_6 : w15.cell? ⟨gb191, 6, none⟩ = some (.slice A0_6 l0_6.length c0_6) := (blk_cell BK191.out 6).trans rfl; have hfz16_0 := blk_frozen BK191.out 0; have hfz16_1 := blk_frozen BK191.out 1; have hfz16_2 := blk_frozen BK191.out 2; have hfz16_3 := blk_frozen BK191.out 3; have hfz16_4 := blk_frozen BK191.out 4; have hfz16_5 := blk_frozen BK191.out 5; have hfz16_6 := blk_frozen BK191.out 6) | ((with_reducible refine gate_callee (f := 16) rfl ?_); refine goesL_ (some 15) rfl rfl Tryd.func16 (by kernel_rfl) rfl #[.agg #[.string a0_0, .int .i64 a0_1, .string a0_2, .int .i64 a0_3, .bool a0_4, .bool a0_5, .slice A0_6 l0_6.length c0_6]] rfl (by (try simp only [List.map_toArray, List.map_cons, List.map_nil]); first | done | rfl | (simp only [List.length_drop, List.length_take]; rfl)) ?_; (with_reducible refine (squelchlaw05_great.calls a0_0 a0_1 a0_2 a0_3 a0_4 a0_5 _ _ l0_6 false _ ?side1 ?side2 A4.out).mono ?_); (case side1 => repeat (first | exact (Kd.C_below HR0_6.out HB.out) | (with_reducible refine Kd.C_alloc ?_ _) | (with_reducible refine Kd.C_drewN ?_ _) | (with_reducible refine Kd.C_drew ?_))); (case side2 => exact HC0_6.out); rintro e w17 ⟨rfl, hb⟩; refine ⟨_, rfl, ?_⟩; have n0_ := Aside0.mk (blk_below (g := gb191) (o := .cells #[.string a0_0, .int .i64 a0_1, .string a0_2, .int .i64 a0_3, .bool a0_4, .bool a0_5, .slice A0_6 l0_6.length c0_6] 26 (0, 0)) (by (with_reducible repeat (first | refine blk_drewN ?_ _ | refine blk_drew ?_ | refine blk_alloc ?_ _)); exact BK191.out) hb); have n1_ := Aside0.mk (below_step (by repeat (first | (with_reducible first | exact HB.out | apply below_alloc | apply pw_below_drewN | apply below_drew1 | refine below_set ?_ GE191.out) | exact HB.out)) hb); clear BK191; clear HB; have BK191 := n0_; have HB := n1_; clear n0_ n1_; (try clear hb); (try clear hb2); (try clear hk); (try clear hi); have hcz18_0 : w17.cell? ⟨gb191, 0, none⟩ = some (.string a0_0) := (blk_cell BK191.out 0).trans rfl; have hcz18_1 : w17.cell? ⟨gb191, 1, none⟩ = some (.int .i64 a0_1) := (blk_cell BK191.out 1).trans rfl; have hcz18_2 : w17.cell? ⟨gb191, 2, none⟩ = some (.string a0_2) := (blk_cell BK191.out 2).trans rfl; have hcz18_3 : w17.cell? ⟨gb191, 3, none⟩ = some (.int .i64 a0_3) := (blk_cell BK191.out 3).trans rfl; have hcz18_4 : w17.cell? ⟨gb191, 4, none⟩ = some (.bool a0_4) := (blk_cell BK191.out 4).trans rfl; have hcz18_5 : w17.cell? ⟨gb191, 5, none⟩ = some (.bool a0_5) := (blk_cell BK191.out 5).trans rfl; have hcz18_6 : w17.cell? ⟨gb191, 6, none⟩ = some (.slice A0_6 l0_6.length c0_6) := (blk_cell BK191.out 6).trans rfl; have hfz18_0 := blk_frozen BK191.out 0; have hfz18_1 := blk_frozen BK191.out 1; have hfz18_2 := blk_frozen BK191.out 2; have hfz18_3 := blk_frozen BK191.out 3; have hfz18_4 := blk_frozen BK191.out 4; have hfz18_5 := blk_frozen BK191.out 5; have hfz18_6 := blk_frozen BK191.out 6) | ((with_reducible refine gate_callee (f := 17) rfl ?_); refine goesL_ (some 17) rfl rfl Tryd.func17 (by kernel_rfl) rfl #[.agg #[.string a0_0, .int .i64 a0_1, .string a0_2, .int .i64 a0_3, .bool a0_4, .bool a0_5, .slice A0_6 l0_6.length c0_6]] rfl (by (try simp only [List.map_toArray, List.map_cons, List.map_nil]); first | done | rfl | (simp only [List.length_drop, List.length_take]; rfl)) ?_; (with_reducible refine (squelchlaw05_Plain.calls k a0_0 a0_1 a0_2 a0_3 a0_4 a0_5 _ _ l0_6 t194 _ ?side1 ?side2 A10.out).mono ?_); (case side1 => repeat (first | exact (Kd.C_below HR0_6.out HB.out) | (with_reducible refine Kd.C_alloc ?_ _) | (with_reducible refine Kd.C_drewN ?_ _) | (with_reducible refine Kd.C_drew ?_))); (case side2 => exact HC0_6.out); rintro e w19 ⟨v195, rfl, ho0, hb⟩; refine ⟨_, rfl, ?_⟩; have n0_ := Aside0.mk (Kd.R_lower ho0 (below_size (by repeat (first | (with_reducible first | exact HB.out | apply below_alloc | apply pw_below_drewN | apply below_drew1 | refine below_set ?_ GE191.out) | exact HB.out)))); have n1_ := Aside0.mk (blk_below (g := gb191) (o := .cells #[.string a0_0, .int .i64 a0_1, .string a0_2, .int .i64 a0_3, .bool a0_4, .bool a0_5, .slice A0_6 l0_6.length c0_6] 26 (0, 0)) (by (with_reducible repeat (first | refine blk_drewN ?_ _ | refine blk_drew ?_ | refine blk_alloc ?_ _)); exact BK191.out) hb); have n2_ := Aside0.mk (below_step (by repeat (first | (with_reducible first | exact HB.out | apply below_alloc | apply pw_below_drewN | apply below_drew1 | refine below_set ?_ GE191.out) | exact HB.out)) hb); clear BK191; clear HB; have HO196 := n0_; have BK191 := n1_; have HB := n2_; clear n0_ n1_ n2_; (try clear hb); (try clear hb2); (try clear hk); (try clear hi); (try clear ho0)) | ((with_reducible refine gate_dst (N := 3) rfl ?_); refine box_event ?hg (N := 3) ?hd (cs := #[.slice none 0 0]) (t := 31) ?hr ?_; (case hd => rfl); (case hg => rfl); (case hr => first | (go_simp; done) | (go_simp; rfl)); intro gb197 hg w20 hbox hb; have n0_ := Aside0.mk (Kd.R_below (by (with_reducible repeat (first | apply Kd.R_alloc | apply Kd.R_drewN | apply Kd.R_drew)); exact HO196.out) hb); have n1_ := Aside0.mk (blk_below (g := gb191) (o := .cells #[.string a0_0, .int .i64 a0_1, .string a0_2, .int .i64 a0_3, .bool a0_4, .bool a0_5, .slice A0_6 l0_6.length c0_6] 26 (0, 0)) (by (with_reducible repeat (first | refine blk_drewN ?_ _ | refine blk_drew ?_ | refine blk_alloc ?_ _)); exact BK191.out) hb); have n2_ := Aside0.mk (below_step (by repeat (first | (with_reducible first | exact HB.out | apply below_alloc | apply pw_below_drewN | apply below_drew1 | refine below_set ?_ GE191.out) | exact HB.out)) hb); have n3_ := Aside0.mk (hbox); have n4_ := Aside0.mk ((by rw [hg]; exact (below_size (by repeat (first | (with_reducible first | exact HB.out | apply below_alloc | apply pw_below_drewN | apply below_drew1 | refine below_set ?_ GE191.out) | exact HB.out))) : w.heap.size ≤ gb197)); have n5_ := Aside0.mk ((by rw [hg]; exact (below_size (by repeat (first | (with_reducible first | exact HB.out | apply below_alloc | apply pw_below_drewN | apply below_drew1 | refine below_set ?_ GE191.out) | exact HB.out))) : w.heap.size ≤ gb197)); have n6_ := Aside0.mk ((by rw [hg]; exact Nat.ne_of_lt (blk_lt (g := gb191) (o := .cells #[.string a0_0, .int .i64 a0_1, .string a0_2, .int .i64 a0_3, .bool a0_4, .bool a0_5, .slice A0_6 l0_6.length c0_6] 26 (0, 0)) (by (with_reducible repeat (first | refine blk_drewN ?_ _ | refine blk_drew ?_ | refine blk_alloc ?_ _)); exact BK191.out)) : gb191 ≠ gb197)); have n7_ := Aside0.mk ((by rw [hg]; exact Nat.ne_of_gt (blk_lt (g := gb191) (o := .cells #[.string a0_0, .int .i64 a0_1, .string a0_2, .int .i64 a0_3, .bool a0_4, .bool a0_5, .slice A0_6 l0_6.length c0_6] 26 (0, 0)) (by (with_reducible repeat (first | refine blk_drewN ?_ _ | refine blk_drew ?_ | refine blk_alloc ?_ _)); exact BK191.out)) : gb197 ≠ gb191)); clear HO196; clear BK191; clear HB; have HO196 := n0_; have BK191 := n1_; have HB := n2_; have BK197 := n3_; have GW197 := n4_; have GE197 := n5_; have NB191_197 := n6_; have NB197_191 := n7_; clear n0_ n1_ n2_ n3_ n4_ n5_ n6_ n7_; clear hb hbox hg; obtain ⟨Ao21, co21, eo21⟩ := Kd.R_slice HO196.out; subst eo21; have hnb22 := NB197_191.out; have hnc22 := NB191_197.out; have hcz23_0 : w20.cell? ⟨gb197, 0, none⟩ = some (.slice none 0 0) := (blk_cell BK197.out 0).trans rfl; have hfz23_0 := blk_frozen BK197.out 0; have hcz24_0 : w20.cell? ⟨gb191, 0, none⟩ = some (.string a0_0) := (blk_cell BK191.out 0).trans rfl; have hcz24_1 : w20.cell? ⟨gb191, 1, none⟩ = some (.int .i64 a0_1) := (blk_cell BK191.out 1).trans rfl; have hcz24_2 : w20.cell? ⟨gb191, 2, none⟩ = some (.string a0_2) := (blk_cell BK191.out 2).trans rfl; have hcz24_3 : w20.cell? ⟨gb191, 3, none⟩ = some (.int .i64 a0_3) := (blk_cell BK191.out 3).trans rfl; have hcz24_4 : w20.cell? ⟨gb191, 4, none⟩ = some (.bool a0_4) := (blk_cell BK191.out 4).trans rfl; have hcz24_5 : w20.cell? ⟨gb191, 5, none⟩ = some (.bool a0_5) := (blk_cell BK191.out 5).trans rfl; have hcz24_6 : w20.cell? ⟨gb191, 6, none⟩ = some (.slice A0_6 l0_6.length c0_6) := (blk_cell BK191.out 6).trans rfl; have hfz24_0 := blk_frozen BK191.out 0; have hfz24_1 := blk_frozen BK191.out 1; have hfz24_2 := blk_frozen BK191.out 2; have hfz24_3 := blk_frozen BK191.out 3; have hfz24_4 := blk_frozen BK191.out 4; have hfz24_5 := blk_frozen BK191.out 5; have hfz24_6 := blk_frozen BK191.out 6) | ((with_reducible refine gate_callee (f := 18) rfl ?_); refine goesL_ (some 20) rfl rfl Tryd.func18 (by kernel_rfl) rfl #[.agg #[.string a0_0, .int .i64 a0_1, .string a0_2, .int .i64 a0_3, .bool a0_4, .bool a0_5, .slice A0_6 l0_6.length c0_6]] rfl (by (try simp only [List.map_toArray, List.map_cons, List.map_nil]); first | done | rfl | (simp only [List.length_drop, List.length_take]; rfl)) ?_; (with_reducible refine (path_Next.calls a0_0 a0_1 a0_2 a0_3 a0_4 a0_5 _ _ l0_6 t198 t199 t200 _ ?side1 ?side2 A11.out).mono ?_); (case side1 => exact Kd.C_below HR0_6.out (by repeat (first | (with_reducible first | exact HB.out | apply below_alloc | apply pw_below_drewN | apply below_drew1 | refine below_set ?_ GE191.out | refine below_set ?_ GE197.out) | exact HB.out))); (case side2 => exact HC0_6.out); rintro e w25 ⟨rfl, hb⟩; refine ⟨_, rfl, ?_⟩; have n0_ := Aside0.mk (Kd.R_below (by (with_reducible repeat (first | apply Kd.R_alloc | apply Kd.R_drewN | apply Kd.R_drew)); exact (Kd.R_mono (Kd.R_far (p := ⟨gb197, 0, none⟩) (Kd.R_types HO196.out BK197.out (by decide)) (fun _ hk => hk.2) (.slice Ao21 t194.length co21)) (fun _ h_ => h_.1))) hb); have n1_ := Aside0.mk (blk_below (g := gb191) (o := .cells #[.string a0_0, .int .i64 a0_1, .string a0_2, .int .i64 a0_3, .bool a0_4, .bool a0_5, .slice A0_6 l0_6.length c0_6] 26 (0, 0)) (by (with_reducible repeat (first | refine blk_drewN ?_ _ | refine blk_drew ?_ | refine blk_alloc ?_ _)); refine blk_far ?_ NB191_197.out _; (with_reducible repeat (first | refine blk_drewN ?_ _ | refine blk_drew ?_ | refine blk_alloc ?_ _)); exact BK191.out) hb); have n2_ := Aside0.mk (blk_below (g := gb197) (o := .cells #[.slice Ao21 t194.length co21] 31 (0, 0)) (by (with_reducible repeat (first | refine blk_drewN ?_ _ | refine blk_drew ?_ | refine blk_alloc ?_ _)); refine blk_put (cs := #[.slice none 0 0]) ?_ 0 _ rfl; (with_reducible repeat (first | refine blk_drewN ?_ _ | refine blk_drew ?_ | refine blk_alloc ?_ _)); exact BK197.out) hb); have n3_ := Aside0.mk (below_step (by repeat (first | (with_reducible first | exact HB.out | apply below_alloc | apply pw_below_drewN | apply below_drew1 | refine below_set ?_ GE191.out | refine below_set ?_ GE197.out) | exact HB.out)) hb); clear HO196; clear BK191; clear BK197; clear HB; have HO196 := n0_; have BK191 := n1_; have BK197 := n2_; have HB := n3_; clear n0_ n1_ n2_ n3_; (try clear hb); (try clear hb2); (try clear hk); (try clear hi)) | ((with_reducible refine gate_dst (N := 4) rfl ?_); refine box_event ?hg (N := 4) ?hd (cs := #[.string (⟨#[]⟩ : ByteArray), .int .i64 0]) (t := 23) ?hr ?_; (case hd => rfl); (case hg => rfl); (case hr => first | (go_simp; done) | (go_simp; rfl)); intro gb201 hg w26 hbox hb; have n0_ := Aside0.mk (Kd.R_below (by (with_reducible repeat (first | apply Kd.R_alloc | apply Kd.R_drewN | apply Kd.R_drew)); exact HO196.out) hb); have n1_ := Aside0.mk (blk_below (g := gb191) (o := .cells #[.string a0_0, .int .i64 a0_1, .string a0_2, .int .i64 a0_3, .bool a0_4, .bool a0_5, .slice A0_6 l0_6.length c0_6] 26 (0, 0)) (by (with_reducible repeat (first | refine blk_drewN ?_ _ | refine blk_drew ?_ | refine blk_alloc ?_ _)); exact BK191.out) hb); have n2_ := Aside0.mk (blk_below (g := gb197) (o := .cells #[.slice Ao21 t194.length co21] 31 (0, 0)) (by (with_reducible repeat (first | refine blk_drewN ?_ _ | refine blk_drew ?_ | refine blk_alloc ?_ _)); exact BK197.out) hb); have n3_ := Aside0.mk (below_step (by repeat (first | (with_reducible first | exact HB.out | apply below_alloc | apply pw_below_drewN | apply below_drew1 | refine below_set ?_ GE191.out | refine below_set ?_ GE197.out) | exact HB.out)) hb); have n4_ := Aside0.mk (hbox); have n5_ := Aside0.mk ((by rw [hg]; exact (below_size (by repeat (first | (with_reducible first | exact HB.out | apply below_alloc | apply pw_below_drewN | apply below_drew1 | refine below_set ?_ GE191.out | refine below_set ?_ GE197.out) | exact HB.out))) : w.heap.size ≤ gb201)); have n6_ := Aside0.mk ((by rw [hg]; exact (below_size (by repeat (first | (with_reducible first | exact HB.out | apply below_alloc | apply pw_below_drewN | apply below_drew1 | refine below_set ?_ GE191.out | refine below_set ?_ GE197.out) | exact HB.out))) : w.heap.size ≤ gb201)); have n7_ := Aside0.mk ((by rw [hg]; exact Nat.ne_of_lt (blk_lt (g := gb191) (o := .cells #[.string a0_0, .int .i64 a0_1, .string a0_2, .int .i64 a0_3, .bool a0_4, .bool a0_5, .slice A0_6 l0_6.length c0_6] 26 (0, 0)) (by (with_reducible repeat (first | refine blk_drewN ?_ _ | refine blk_drew ?_ | refine blk_alloc ?_ _)); exact BK191.out)) : gb191 ≠ gb201)); have n8_ := Aside0.mk ((by rw [hg]; exact Nat.ne_of_gt (blk_lt (g := gb191) (o := .cells #[.string a0_0, .int .i64 a0_1, .string a0_2, .int .i64 a0_3, .bool a0_4, .bool a0_5, .slice A0_6 l0_6.length c0_6] 26 (0, 0)) (by (with_reducible repeat (first | refine blk_drewN ?_ _ | refine blk_drew ?_ | refine blk_alloc ?_ _)); exact BK191.out)) : gb201 ≠ gb191)); have n9_ := Aside0.mk ((by rw [hg]; exact Nat.ne_of_lt (blk_lt (g := gb197) (o := .cells #[.slice Ao21 t194.length co21] 31 (0, 0)) (by (with_reducible repeat (first | refine blk_drewN ?_ _ | refine blk_drew ?_ | refine blk_alloc ?_ _)); exact BK197.out)) : gb197 ≠ gb201)); have n10_ := Aside0.mk ((by rw [hg]; exact Nat.ne_of_gt (blk_lt (g := gb197) (o := .cells #[.slice Ao21 t194.length co21] 31 (0, 0)) (by (with_reducible repeat (first | refine blk_drewN ?_ _ | refine blk_drew ?_ | refine blk_alloc ?_ _)); exact BK197.out)) : gb201 ≠ gb197)); clear HO196; clear BK191; clear BK197; clear HB; have HO196 := n0_; have BK191 := n1_; have BK197 := n2_; have HB := n3_; have BK201 := n4_; have GW201 := n5_; have GE201 := n6_; have NB191_201 := n7_; have NB201_191 := n8_; have NB197_201 := n9_; have NB201_197 := n10_; clear n0_ n1_ n2_ n3_ n4_ n5_ n6_ n7_ n8_ n9_ n10_; clear hb hbox hg; have hnb27 := NB201_191.out; have hnc27 := NB191_201.out; have hnb28 := NB201_197.out; have hnc28 := NB197_201.out; have hcz29_0 : w26.cell? ⟨gb201, 0, none⟩ = some (.string (⟨#[]⟩ : ByteArray)) := (blk_cell BK201.out 0).trans rfl; have hcz29_1 : w26.cell? ⟨gb201, 1, none⟩ = some (.int .i64 0) := (blk_cell BK201.out 1).trans rfl; have hfz29_0 := blk_frozen BK201.out 0; have hfz29_1 := blk_frozen BK201.out 1; have hcz30_0 : w26.cell? ⟨gb197, 0, none⟩ = some (.slice Ao21 t194.length co21) := (blk_cell BK197.out 0).trans rfl; have hfz30_0 := blk_frozen BK197.out 0) | ((with_reducible refine gate_callee (f := 19) rfl ?_); refine goesL_ (some 24) rfl rfl Tryd.func19 (by kernel_rfl) rfl #[.agg #[.slice Ao21 t194.length co21]] rfl (by (try simp only [List.map_toArray, List.map_cons, List.map_nil]); first | done | rfl | (simp only [List.length_drop, List.length_take]; rfl)) ?_; (with_reducible refine (squelchref05_Next.calls k _ _ t194 t202 _ ?side1 ?side2 A12.out).mono ?_); (case side1 => refine (Kd.R_reads' (e := 37) (base := w.heap.size) (ok := fun k_ => True) (n := t194.length) (c := co21) ?_).2.2; exact (by (with_reducible repeat (first | apply Kd.R_alloc | apply Kd.R_drewN | apply Kd.R_drew)); exact (Kd.R_mono (Kd.R_far (p := ⟨gb201, 1, none⟩) (Kd.R_far (p := ⟨gb201, 0, none⟩) (Kd.R_types HO196.out BK201.out (by decide)) (fun _ hk => hk.2) (.string t198)) (fun _ hk => hk.2) (.int .i64 t199)) (fun _ h_ => h_.1)))); (case side2 => exact (Kd.R_reads' HO196.out).2.1); rintro e w31 ⟨rfl, hb⟩; refine ⟨_, rfl, ?_⟩; have n0_ := Aside0.mk (Kd.R_below (by (with_reducible repeat (first | apply Kd.R_alloc | apply Kd.R_drewN | apply Kd.R_drew)); exact (Kd.R_mono (Kd.R_far (p := ⟨gb201, 1, none⟩) (Kd.R_far (p := ⟨gb201, 0, none⟩) (Kd.R_types HO196.out BK201.out (by decide)) (fun _ hk => hk.2) (.string t198)) (fun _ hk => hk.2) (.int .i64 t199)) (fun _ h_ => h_.1))) hb); have n1_ := Aside0.mk (blk_below (g := gb191) (o := .cells #[.string a0_0, .int .i64 a0_1, .string a0_2, .int .i64 a0_3, .bool a0_4, .bool a0_5, .slice A0_6 l0_6.length c0_6] 26 (0, 0)) (by (with_reducible repeat (first | refine blk_drewN ?_ _ | refine blk_drew ?_ | refine blk_alloc ?_ _)); refine blk_far ?_ NB191_201.out _; (with_reducible repeat (first | refine blk_drewN ?_ _ | refine blk_drew ?_ | refine blk_alloc ?_ _)); refine blk_far ?_ NB191_201.out _; (with_reducible repeat (first | refine blk_drewN ?_ _ | refine blk_drew ?_ | refine blk_alloc ?_ _)); exact BK191.out) hb); have n2_ := Aside0.mk (blk_below (g := gb197) (o := .cells #[.slice Ao21 t194.length co21] 31 (0, 0)) (by (with_reducible repeat (first | refine blk_drewN ?_ _ | refine blk_drew ?_ | refine blk_alloc ?_ _)); refine blk_far ?_ NB197_201.out _; (with_reducible repeat (first | refine blk_drewN ?_ _ | refine blk_drew ?_ | refine blk_alloc ?_ _)); refine blk_far ?_ NB197_201.out _; (with_reducible repeat (first | refine blk_drewN ?_ _ | refine blk_drew ?_ | refine blk_alloc ?_ _)); exact BK197.out) hb); have n3_ := Aside0.mk (blk_below (g := gb201) (o := .cells #[.string t198, .int .i64 t199] 23 (0, 0)) (by (with_reducible repeat (first | refine blk_drewN ?_ _ | refine blk_drew ?_ | refine blk_alloc ?_ _)); refine blk_put (cs := #[.string t198, .int .i64 0]) ?_ 1 _ rfl; (with_reducible repeat (first | refine blk_drewN ?_ _ | refine blk_drew ?_ | refine blk_alloc ?_ _)); refine blk_put (cs := #[.string (⟨#[]⟩ : ByteArray), .int .i64 0]) ?_ 0 _ rfl; (with_reducible repeat (first | refine blk_drewN ?_ _ | refine blk_drew ?_ | refine blk_alloc ?_ _)); exact BK201.out) hb); have n4_ := Aside0.mk (below_step (by repeat (first | (with_reducible first | exact HB.out | apply below_alloc | apply pw_below_drewN | apply below_drew1 | refine below_set ?_ GE191.out | refine below_set ?_ GE197.out | refine below_set ?_ GE201.out) | exact HB.out)) hb); clear HO196; clear BK191; clear BK197; clear BK201; clear HB; have HO196 := n0_; have BK191 := n1_; have BK197 := n2_; have BK201 := n3_; have HB := n4_; clear n0_ n1_ n2_ n3_ n4_; (try clear hb); (try clear hb2); (try clear hk); (try clear hi)))
   (try simp only [Act.put, List.setIfInBounds_toArray, List.set_cons_zero, List.set_cons_succ])
   go_cut [50] (fun v50 wc => ∃ (kq : Nat) (x50_12 : Bool), v50 = .bool x50_12 ∧ Aside0 (squelchlaw05_PathGoes.j0 kq x50_12 a0_0 a0_1 a0_2 a0_3 a0_4 a0_5 l0_6 t194 = some r) ∧ Aside0 (kq ≤ k) ∧ Aside0 (Kd.R k37 37 wc w.heap.size (fun _ => True) (.slice Ao21 t194.length co21) t194) ∧ Aside0 (wc.heap[gb191]? = some (.cells #[.string a0_0, .int .i64 a0_1, .string a0_2, .int .i64 a0_3, .bool a0_4, .bool a0_5, (.slice A0_6 l0_6.length c0_6)] 26 (0, 0))) ∧ Aside0 (wc.heap[gb197]? = some (.cells #[(.slice Ao21 t194.length co21)] 31 (0, 0))) ∧ Aside0 (wc.heap[gb201]? = some (.cells #[.string t198, .int .i64 t199] 23 (0, 0))) ∧ Aside0 (Below w.heap.size w wc))
   case first =>
    have H := HC13.out
    clear HC13
    by_cases c32 : (t200 != (decide (t202 ≥ 0))) = true
    ·rw [if_pos c32] at H
     have c32b0 : (t200 != (decide (t202 ≥ 0))) = true := c32
     (try (have c32b1 : decide (t200 = (decide (t202 ≥ 0))) = false := by simpa using c32))
     (try (have c32b2 : (t200 == (decide (t202 ≥ 0))) = false := by simpa using c32))
     (try (have c32b3 : ¬ (t200 = (decide (t202 ≥ 0))) := by simpa using c32))
     clear c32
     (first | rw [c32b0] | (simp only [i64_w, i32_w]; rw [c32b0]) | skip)
     have H' := Aside0.mk H
     clear H
     try go_wp2
     have n0_ := Aside0.mk (Kd.R_drew HO196.out)
     have n1_ := Aside0.mk (blk_drew BK191.out)
     have n2_ := Aside0.mk (blk_drew BK197.out)
     have n3_ := Aside0.mk (blk_drew BK201.out)
     have n4_ := Aside0.mk (below_drew1 HB.out)
     clear HO196
     clear BK191
     clear BK197
     clear BK201
     clear HB
     have HO196 := n0_
     have BK191 := n1_
     have BK197 := n2_
     have BK201 := n3_
     have HB := n4_
     clear n0_ n1_ n2_ n3_ n4_
     refine start_ (n := 26) (S := fun w' => True) (ds := []) #[false, false, false, false, false, false, false, false, false, false, false, false, false, false, false, false, false, false, false, false, false, false, false, false, false, false] (by kernel_rfl) rfl rfl trivial (fun hHeld => ?_); refine with_tabW squelchlaw05_PathGoes.tab8 squelchlaw05_PathGoes.bits8 (fun HT_ HW_ => ?_)
     generalize w31.drew = w33 at HO196 BK191 BK197 BK201 HB hHeld ⊢
     refine pure_ (i := 0) (N := some 25) (v := ?_) (a' := ?_) #[true, false, false, false, false, false, false, false, false, false, false, false, false, false, false, false, false, false, false, false, false, false, false, false, false, false] rfl rfl (any_of HT_.out (by kernel_rfl)) (fun _ _ _ h => h) (Or.inl ⟨by rfl, ?_⟩) ?_ ?_
     rotate_left
     ·intro w'
      go_simp
      with_reducible rfl
     rotate_left
     ·simp only [Act.put, List.setIfInBounds_toArray, List.set_cons_zero, List.set_cons_succ, i64_w, i32_w]
      rfl
     refine pure_ (i := 1) (N := some 26) (v := ?_) (a' := ?_) #[true, true, false, false, false, false, false, false, false, false, false, false, false, false, false, false, false, false, false, false, false, false, false, false, false, false] rfl rfl (any_of HT_.out (by kernel_rfl)) (fun _ _ _ h => h) (Or.inl ⟨by rfl, ?_⟩) ?_ ?_
     rotate_left
     ·intro w'
      go_simp
      with_reducible rfl
     rotate_left
     ·simp only [Act.put, List.setIfInBounds_toArray, List.set_cons_zero, List.set_cons_succ, i64_w, i32_w]
      rfl
     refine pure_ (i := 2) (N := some 27) (v := ?_) (a' := ?_) #[true, true, true, false, false, false, false, false, false, false, false, false, false, false, false, false, false, false, false, false, false, false, false, false, false, false] rfl rfl (any_of HT_.out (by kernel_rfl)) (fun _ _ _ h => h) (Or.inl ⟨by rfl, ?_⟩) ?_ ?_
     rotate_left
     ·intro w'
      go_simp
      with_reducible rfl
     rotate_left
     ·simp only [Act.put, List.setIfInBounds_toArray, List.set_cons_zero, List.set_cons_succ, i64_w, i32_w]
      rfl
     refine pure_ (i := 3) (N := some 28) (v := ?_) (a' := ?_) #[true, true, true, true, false, false, false, false, false, false, false, false, false, false, false, false, false, false, false, false, false, false, false, false, false, false] rfl rfl (any_of HT_.out (by kernel_rfl)) (fun _ _ _ h => h) (Or.inl ⟨by rfl, ?_⟩) ?_ ?_
     rotate_left
     ·intro w'
      go_simp
      with_reducible rfl
     rotate_left
     ·simp only [Act.put, List.setIfInBounds_toArray, List.set_cons_zero, List.set_cons_succ, i64_w, i32_w]
      rfl
     refine pure_ (i := 4) (N := some 29) (v := ?_) (a' := ?_) #[true, true, true, true, true, false, false, false, false, false, false, false, false, false, false, false, false, false, false, false, false, false, false, false, false, false] rfl rfl (any_of HT_.out (by kernel_rfl)) (fun _ _ _ h => h) (Or.inl ⟨by rfl, ?_⟩) ?_ ?_
     rotate_left
     ·intro w'
      go_simp
      with_reducible rfl
     rotate_left
     ·simp only [Act.put, List.setIfInBounds_toArray, List.set_cons_zero, List.set_cons_succ, i64_w, i32_w]
      rfl
     refine pure_ (i := 5) (N := some 30) (v := undef) (a' := ?_) #[true, true, true, true, true, true, false, false, false, false, false, false, false, false, false, false, false, false, false, false, false, false, false, false, false, false] rfl rfl (any_of HT_.out (by kernel_rfl)) (fun _ _ _ h => h) (Or.inr ⟨by rfl, rfl⟩) ?_ ?_
     rotate_left
     ·simp only [Act.put, List.setIfInBounds_toArray, List.set_cons_zero, List.set_cons_succ, i64_w, i32_w]
      rfl
     refine pure_ (i := 6) (N := some 31) (v := undef) (a' := ?_) #[true, true, true, true, true, true, true, false, false, false, false, false, false, false, false, false, false, false, false, false, false, false, false, false, false, false] rfl rfl (any_of HT_.out (by kernel_rfl)) (fun _ _ _ h => h) (Or.inr ⟨by rfl, rfl⟩) ?_ ?_
     rotate_left
     ·simp only [Act.put, List.setIfInBounds_toArray, List.set_cons_zero, List.set_cons_succ, i64_w, i32_w]
      rfl
     refine pure_ (i := 7) (N := some 32) (v := undef) (a' := ?_) #[true, true, true, true, true, true, true, true, false, false, false, false, false, false, false, false, false, false, false, false, false, false, false, false, false, false] rfl rfl (any_of HT_.out (by kernel_rfl)) (fun _ _ _ h => h) (Or.inr ⟨by rfl, rfl⟩) ?_ ?_
     rotate_left
     ·simp only [Act.put, List.setIfInBounds_toArray, List.set_cons_zero, List.set_cons_succ, i64_w, i32_w]
      rfl
     refine pure_ (i := 8) (N := some 33) (v := undef) (a' := ?_) #[true, true, true, true, true, true, true, true, true, false, false, false, false, false, false, false, false, false, false, false, false, false, false, false, false, false] rfl rfl (any_of HT_.out (by kernel_rfl)) (fun _ _ _ h => h) (Or.inr ⟨by rfl, rfl⟩) ?_ ?_
     rotate_left
     ·simp only [Act.put, List.setIfInBounds_toArray, List.set_cons_zero, List.set_cons_succ, i64_w, i32_w]
      rfl
     refine pure_ (i := 9) (N := some 34) (v := undef) (a' := ?_) #[true, true, true, true, true, true, true, true, true, true, false, false, false, false, false, false, false, false, false, false, false, false, false, false, false, false] rfl rfl (any_of HT_.out (by kernel_rfl)) (fun _ _ _ h => h) (Or.inr ⟨by rfl, rfl⟩) ?_ ?_
     rotate_left
     ·simp only [Act.put, List.setIfInBounds_toArray, List.set_cons_zero, List.set_cons_succ, i64_w, i32_w]
      rfl
     refine pure_ (i := 10) (N := some 35) (v := undef) (a' := ?_) #[true, true, true, true, true, true, true, true, true, true, true, false, false, false, false, false, false, false, false, false, false, false, false, false, false, false] rfl rfl (any_of HT_.out (by kernel_rfl)) (fun _ _ _ h => h) (Or.inr ⟨by rfl, rfl⟩) ?_ ?_
     rotate_left
     ·simp only [Act.put, List.setIfInBounds_toArray, List.set_cons_zero, List.set_cons_succ, i64_w, i32_w]
      rfl
     refine pure_ (i := 11) (N := some 36) (v := undef) (a' := ?_) #[true, true, true, true, true, true, true, true, true, true, true, true, false, false, false, false, false, false, false, false, false, false, false, false, false, false] rfl rfl (any_of HT_.out (by kernel_rfl)) (fun _ _ _ h => h) (Or.inr ⟨by rfl, rfl⟩) ?_ ?_
     rotate_left
     ·simp only [Act.put, List.setIfInBounds_toArray, List.set_cons_zero, List.set_cons_succ, i64_w, i32_w]
      rfl
     refine pure_ (i := 12) (N := some 37) (v := undef) (a' := ?_) #[true, true, true, true, true, true, true, true, true, true, true, true, true, false, false, false, false, false, false, false, false, false, false, false, false, false] rfl rfl (any_of HT_.out (by kernel_rfl)) (fun _ _ _ h => h) (Or.inr ⟨by rfl, rfl⟩) ?_ ?_
     rotate_left
     ·simp only [Act.put, List.setIfInBounds_toArray, List.set_cons_zero, List.set_cons_succ, i64_w, i32_w]
      rfl
     refine pure_ (i := 13) (N := some 38) (v := undef) (a' := ?_) #[true, true, true, true, true, true, true, true, true, true, true, true, true, true, false, false, false, false, false, false, false, false, false, false, false, false] rfl rfl (any_of HT_.out (by kernel_rfl)) (fun _ _ _ h => h) (Or.inr ⟨by rfl, rfl⟩) ?_ ?_
     rotate_left
     ·simp only [Act.put, List.setIfInBounds_toArray, List.set_cons_zero, List.set_cons_succ, i64_w, i32_w]
      rfl
     refine pure_ (i := 14) (N := some 39) (v := undef) (a' := ?_) #[true, true, true, true, true, true, true, true, true, true, true, true, true, true, true, false, false, false, false, false, false, false, false, false, false, false] rfl rfl (any_of HT_.out (by kernel_rfl)) (fun _ _ _ h => h) (Or.inr ⟨by rfl, rfl⟩) ?_ ?_
     rotate_left
     ·simp only [Act.put, List.setIfInBounds_toArray, List.set_cons_zero, List.set_cons_succ, i64_w, i32_w]
      rfl
     refine pure_ (i := 15) (N := some 40) (v := undef) (a' := ?_) #[true, true, true, true, true, true, true, true, true, true, true, true, true, true, true, true, false, false, false, false, false, false, false, false, false, false] rfl rfl (any_of HT_.out (by kernel_rfl)) (fun _ _ _ h => h) (Or.inr ⟨by rfl, rfl⟩) ?_ ?_
     rotate_left
     ·simp only [Act.put, List.setIfInBounds_toArray, List.set_cons_zero, List.set_cons_succ, i64_w, i32_w]
      rfl
     refine pure_ (i := 16) (N := some 41) (v := ?_) (a' := ?_) #[true, true, true, true, true, true, true, true, true, true, true, true, true, true, true, true, true, false, false, false, false, false, false, false, false, false] rfl rfl (any_of HT_.out (by kernel_rfl)) (fun _ _ _ h => h) (Or.inl ⟨by rfl, ?_⟩) ?_ ?_
     rotate_left
     ·intro w'
      go_simp
      with_reducible rfl
     rotate_left
     ·simp only [Act.put, List.setIfInBounds_toArray, List.set_cons_zero, List.set_cons_succ, i64_w, i32_w]
      rfl
     refine pure_ (i := 17) (N := some 42) (v := ?_) (a' := ?_) #[true, true, true, true, true, true, true, true, true, true, true, true, true, true, true, true, true, true, false, false, false, false, false, false, false, false] rfl rfl (any_of HT_.out (by kernel_rfl)) (fun _ _ _ h => h) (Or.inl ⟨by rfl, ?_⟩) ?_ ?_
     rotate_left
     ·intro w'
      go_simp
      with_reducible rfl
     rotate_left
     ·simp only [Act.put, List.setIfInBounds_toArray, List.set_cons_zero, List.set_cons_succ, i64_w, i32_w]
      rfl
     refine pure_ (i := 18) (N := some 43) (v := undef) (a' := ?_) #[true, true, true, true, true, true, true, true, true, true, true, true, true, true, true, true, true, true, true, false, false, false, false, false, false, false] rfl rfl (any_of HT_.out (by kernel_rfl)) (fun _ _ _ h => h) (Or.inr ⟨by rfl, rfl⟩) ?_ ?_
     rotate_left
     ·simp only [Act.put, List.setIfInBounds_toArray, List.set_cons_zero, List.set_cons_succ, i64_w, i32_w]
      rfl
     refine pure_ (i := 19) (N := some 44) (v := undef) (a' := ?_) #[true, true, true, true, true, true, true, true, true, true, true, true, true, true, true, true, true, true, true, true, false, false, false, false, false, false] rfl rfl (any_of HT_.out (by kernel_rfl)) (fun _ _ _ h => h) (Or.inr ⟨by rfl, rfl⟩) ?_ ?_
     rotate_left
     ·simp only [Act.put, List.setIfInBounds_toArray, List.set_cons_zero, List.set_cons_succ, i64_w, i32_w]
      rfl
     refine pure_ (i := 20) (N := some 45) (v := undef) (a' := ?_) #[true, true, true, true, true, true, true, true, true, true, true, true, true, true, true, true, true, true, true, true, true, false, false, false, false, false] rfl rfl (any_of HT_.out (by kernel_rfl)) (fun _ _ _ h => h) (Or.inr ⟨by rfl, rfl⟩) ?_ ?_
     rotate_left
     ·simp only [Act.put, List.setIfInBounds_toArray, List.set_cons_zero, List.set_cons_succ, i64_w, i32_w]
      rfl
     refine pure_ (i := 21) (N := some 46) (v := undef) (a' := ?_) #[true, true, true, true, true, true, true, true, true, true, true, true, true, true, true, true, true, true, true, true, true, true, false, false, false, false] rfl rfl (any_of HT_.out (by kernel_rfl)) (fun _ _ _ h => h) (Or.inr ⟨by rfl, rfl⟩) ?_ ?_
     rotate_left
     ·simp only [Act.put, List.setIfInBounds_toArray, List.set_cons_zero, List.set_cons_succ, i64_w, i32_w]
      rfl
     refine pure_ (i := 22) (N := some 47) (v := undef) (a' := ?_) #[true, true, true, true, true, true, true, true, true, true, true, true, true, true, true, true, true, true, true, true, true, true, true, false, false, false] rfl rfl (any_of HT_.out (by kernel_rfl)) (fun _ _ _ h => h) (Or.inr ⟨by rfl, rfl⟩) ?_ ?_
     rotate_left
     ·simp only [Act.put, List.setIfInBounds_toArray, List.set_cons_zero, List.set_cons_succ, i64_w, i32_w]
      rfl
     refine pure_ (i := 23) (N := some 48) (v := undef) (a' := ?_) #[true, true, true, true, true, true, true, true, true, true, true, true, true, true, true, true, true, true, true, true, true, true, true, true, false, false] rfl rfl (any_of HT_.out (by kernel_rfl)) (fun _ _ _ h => h) (Or.inr ⟨by rfl, rfl⟩) ?_ ?_
     rotate_left
     ·simp only [Act.put, List.setIfInBounds_toArray, List.set_cons_zero, List.set_cons_succ, i64_w, i32_w]
      rfl
     refine pure_ (i := 24) (N := some 49) (v := undef) (a' := ?_) #[true, true, true, true, true, true, true, true, true, true, true, true, true, true, true, true, true, true, true, true, true, true, true, true, true, false] rfl rfl (any_of HT_.out (by kernel_rfl)) (fun _ _ _ h => h) (Or.inr ⟨by rfl, rfl⟩) ?_ ?_
     rotate_left
     ·simp only [Act.put, List.setIfInBounds_toArray, List.set_cons_zero, List.set_cons_succ, i64_w, i32_w]
      rfl
     refine pure_ (i := 25) (N := some 50) (v := ?_) (a' := ?_) #[true, true, true, true, true, true, true, true, true, true, true, true, true, true, true, true, true, true, true, true, true, true, true, true, true, true] rfl rfl (any_of HT_.out (by kernel_rfl)) (fun _ _ _ h => h) (Or.inl ⟨by rfl, ?_⟩) ?_ ?_
     rotate_left
     ·intro w'
      go_simp
      with_reducible rfl
     rotate_left
     ·simp only [Act.put, List.setIfInBounds_toArray, List.set_cons_zero, List.set_cons_succ, i64_w, i32_w]
      rfl
     refine done_ (done_of HT_.out (by kernel_rfl)) ?_
     try go_wp2
     go_meet
     case rel => exact ⟨_, (true), (by first | rfl | (simp; done) | (simp [*]; done) | (simp; exact (fun l : List UInt8 => (by cases l <;> rfl : l.isEmpty = !(l != []))) _)), H', ⟨by first | omega | exact Nat.le_refl _⟩, ⟨by (with_reducible repeat (first | apply Kd.R_alloc | apply Kd.R_drewN | apply Kd.R_drew)); exact HO196.out⟩, ⟨by (with_reducible repeat (first | refine blk_drewN ?_ _ | refine blk_drew ?_ | refine blk_alloc ?_ _)); exact BK191.out⟩, ⟨by (with_reducible repeat (first | refine blk_drewN ?_ _ | refine blk_drew ?_ | refine blk_alloc ?_ _)); exact BK197.out⟩, ⟨by (with_reducible repeat (first | refine blk_drewN ?_ _ | refine blk_drew ?_ | refine blk_alloc ?_ _)); exact BK201.out⟩, ⟨by repeat (first | (with_reducible first | exact HB.out | apply below_alloc | apply pw_below_drewN | apply below_drew1 | refine below_set ?_ GE191.out | refine below_set ?_ GE197.out | refine below_set ?_ GE201.out) | exact HB.out)⟩⟩
    ·rw [if_neg c32] at H
     have c32b0 : (t200 != (decide (t202 ≥ 0))) = false := by simpa using c32
     (try (have c32b1 : decide (t200 = (decide (t202 ≥ 0))) = true := by simpa using c32))
     (try (have c32b2 : (t200 == (decide (t202 ≥ 0))) = true := by simpa using c32))
     clear c32
     (first | rw [c32b0] | (simp only [i64_w, i32_w]; rw [c32b0]) | skip)
     by_cases c34 : t200 = true
     ·subst c34
      (try simp only [Bool.true_beq, Bool.false_beq, beq_true, beq_false] at c32b0)
      have H1 : (if 0 ≤ t202 then (if t202 < (t194.length : Int) then (if (!(t198.toList == (((rd_T37 t194 t202).f0.f0).toList)) || (!(t199 == ((rd_T37 t194 t202).f0.f1)))) = true then (squelchlaw05_PathGoes.j0 k true a0_0 a0_1 a0_2 a0_3 a0_4 a0_5 l0_6 t194) else (squelchlaw05_PathGoes.j0 k false a0_0 a0_1 a0_2 a0_3 a0_4 a0_5 l0_6 t194)) else (none)) else (none)) = some r := by rw [if_pos rfl] at H; exact H
      clear H
      have H := H1
      clear H1
      by_cases c35 : 0 ≤ t202
      ·rw [if_pos c35] at H
       have c35b0 : decide (0 ≤ t202) = true := decide_eq_true c35
       clear c35
       by_cases c36 : t202 < (t194.length : Int)
       ·rw [if_pos c36] at H
        have c36b0 : decide (t202 < (t194.length : Int)) = true := decide_eq_true c36
        clear c36
        by_cases c37 : (!(t198.toList == (((rd_T37 t194 t202).f0.f0).toList)) || (!(t199 == ((rd_T37 t194 t202).f0.f1)))) = true
        ·rw [if_pos c37] at H
         have c37b0 : (!(t198.toList == (((rd_T37 t194 t202).f0.f0).toList)) || (!(t199 == ((rd_T37 t194 t202).f0.f1)))) = true := c37
         clear c37
         have H' := Aside0.mk H
         clear H
         try go_wp2
         have n0_ := Aside0.mk (Kd.R_drew HO196.out)
         have n1_ := Aside0.mk (blk_drew BK191.out)
         have n2_ := Aside0.mk (blk_drew BK197.out)
         have n3_ := Aside0.mk (blk_drew BK201.out)
         have n4_ := Aside0.mk (below_drew1 HB.out)
         clear HO196
         clear BK191
         clear BK197
         clear BK201
         clear HB
         have HO196 := n0_
         have BK191 := n1_
         have BK197 := n2_
         have BK201 := n3_
         have HB := n4_
         clear n0_ n1_ n2_ n3_ n4_
         have p203 : 0 ≤ (t202 : Int) := of_decide_eq_true (by first | (with_reducible assumption) | assumption)
         have q203 : t202 < (t194.length : Int) := of_decide_eq_true (by first | (with_reducible assumption) | assumption)
         obtain ⟨ad203, e203, hx203_0, hx203_1, hx203_2⟩ := at_T37 (Kd.R_reads' HO196.out).2.2 t202 p203 q203
         cases e203
         replace p203 := eq_true p203
         replace q203 := eq_true q203
         refine start_ (n := 26) (S := fun w' => w'.cell? ⟨gb201, 0, none⟩ = some (.string t198) ∧ w'.cell? ⟨gb201, 1, none⟩ = some (.int .i64 t199) ∧ w'.cell? ⟨gb197, 0, none⟩ = some (.slice (some ad203) t194.length co21) ∧ w'.cell? (ad203.add ((t202).toNat * 3)) = some (.string ((rd_T37 t194 t202).f0.f0)) ∧ w'.cell? ⟨(ad203.add ((t202).toNat * 3)).block, (ad203.add ((t202).toNat * 3)).off + 1, none⟩ = some (.int .i64 ((rd_T37 t194 t202).f0.f1)) ∧ w'.cell? ⟨(ad203.add ((t202).toNat * 3)).block, (ad203.add ((t202).toNat * 3)).off + 2, none⟩ = some (.bool ((rd_T37 t194 t202).f1))) (ds := []) #[false, false, false, false, false, false, false, false, false, false, false, false, false, false, false, false, false, false, false, false, false, false, false, false, false, false] (by kernel_rfl) rfl rfl ⟨(blk_cell BK201.out 0).trans rfl, (blk_cell BK201.out 1).trans rfl, (blk_cell BK197.out 0).trans rfl, hx203_0, hx203_1, hx203_2⟩ (fun hHeld => ?_); refine with_tabW squelchlaw05_PathGoes.tab8 squelchlaw05_PathGoes.bits8 (fun HT_ HW_ => ?_)
         generalize w31.drew = w38 at HO196 BK191 BK197 BK201 HB hx203_0 hx203_1 hx203_2 hHeld ⊢
         refine pure_ (i := 0) (N := some 25) (v := ?_) (a' := ?_) #[true, false, false, false, false, false, false, false, false, false, false, false, false, false, false, false, false, false, false, false, false, false, false, false, false, false] rfl rfl (any_of HT_.out (by kernel_rfl)) (fun _ _ _ h => h) (Or.inl ⟨by rfl, ?_⟩) ?_ ?_
         rotate_left
         ·intro w'
          go_simp
          with_reducible rfl
         rotate_left
         ·simp only [Act.put, List.setIfInBounds_toArray, List.set_cons_zero, List.set_cons_succ, i64_w, i32_w]
          rfl
         refine pure_ (i := 1) (N := some 26) (v := ?_) (a' := ?_) #[true, true, false, false, false, false, false, false, false, false, false, false, false, false, false, false, false, false, false, false, false, false, false, false, false, false] rfl rfl (any_of HT_.out (by kernel_rfl)) (fun _ _ _ h => h) (Or.inl ⟨by rfl, ?_⟩) ?_ ?_
         rotate_left
         ·intro w'
          go_simp
          with_reducible rfl
         rotate_left
         ·simp only [Act.put, List.setIfInBounds_toArray, List.set_cons_zero, List.set_cons_succ, i64_w, i32_w]
          rfl
         refine pure_ (i := 2) (N := some 27) (v := ?_) (a' := ?_) #[true, true, true, false, false, false, false, false, false, false, false, false, false, false, false, false, false, false, false, false, false, false, false, false, false, false] rfl rfl (any_of HT_.out (by kernel_rfl)) (fun _ _ _ h => h) (Or.inl ⟨by rfl, ?_⟩) ?_ ?_
         rotate_left
         ·intro w'
          go_simp
          with_reducible rfl
         rotate_left
         ·simp only [Act.put, List.setIfInBounds_toArray, List.set_cons_zero, List.set_cons_succ, i64_w, i32_w]
          rfl
         refine pure_ (i := 3) (N := some 28) (v := ?_) (a' := ?_) #[true, true, true, true, false, false, false, false, false, false, false, false, false, false, false, false, false, false, false, false, false, false, false, false, false, false] rfl rfl (any_of HT_.out (by kernel_rfl)) (fun _ _ _ h => h) (Or.inl ⟨by rfl, ?_⟩) ?_ ?_
         rotate_left
         ·intro w'
          go_simp
          with_reducible rfl
         rotate_left
         ·simp only [Act.put, List.setIfInBounds_toArray, List.set_cons_zero, List.set_cons_succ, i64_w, i32_w]
          rfl
         refine pure_ (i := 4) (N := some 29) (v := ?_) (a' := ?_) #[true, true, true, true, true, false, false, false, false, false, false, false, false, false, false, false, false, false, false, false, false, false, false, false, false, false] rfl rfl (any_of HT_.out (by kernel_rfl)) (fun _ _ _ h => h) (Or.inl ⟨by rfl, ?_⟩) ?_ ?_
         rotate_left
         ·intro w'
          go_simp
          with_reducible rfl
         rotate_left
         ·simp only [Act.put, List.setIfInBounds_toArray, List.set_cons_zero, List.set_cons_succ, i64_w, i32_w]
          rfl
         refine pure_ (i := 5) (N := some 30) (v := ?_) (a' := ?_) #[true, true, true, true, true, true, false, false, false, false, false, false, false, false, false, false, false, false, false, false, false, false, false, false, false, false] rfl rfl (any_of HT_.out (by kernel_rfl)) (fun _ _ _ h => h) (Or.inl ⟨by rfl, ?_⟩) ?_ ?_
         rotate_left
         ·intro w'
          go_simp
          with_reducible rfl
         rotate_left
         ·simp only [Act.put, List.setIfInBounds_toArray, List.set_cons_zero, List.set_cons_succ, i64_w, i32_w]
          rfl
         refine pure_ (i := 6) (N := some 31) (v := ?_) (a' := ?_) #[true, true, true, true, true, true, true, false, false, false, false, false, false, false, false, false, false, false, false, false, false, false, false, false, false, false] rfl rfl (any_of HT_.out (by kernel_rfl)) (fun _ _ _ h => h) (Or.inl ⟨by rfl, ?_⟩) ?_ ?_
         rotate_left
         ·intro w'
          go_simp
          with_reducible rfl
         rotate_left
         ·simp only [Act.put, List.setIfInBounds_toArray, List.set_cons_zero, List.set_cons_succ, i64_w, i32_w]
          rfl
         refine pure_ (i := 8) (N := some 33) (v := ?_) (a' := ?_) #[true, true, true, true, true, true, true, false, true, false, false, false, false, false, false, false, false, false, false, false, false, false, false, false, false, false] rfl rfl (any_of HT_.out (by kernel_rfl)) (fun _ _ _ h => h) (Or.inl ⟨by rfl, ?_⟩) ?_ ?_
         rotate_left
         ·intro w'
          go_simp
          with_reducible rfl
         rotate_left
         ·simp only [Act.put, List.setIfInBounds_toArray, List.set_cons_zero, List.set_cons_succ, i64_w, i32_w]
          rfl
         refine pure_ (i := 10) (N := some 35) (v := ?_) (a' := ?_) #[true, true, true, true, true, true, true, false, true, false, true, false, false, false, false, false, false, false, false, false, false, false, false, false, false, false] rfl rfl (any_of HT_.out (by kernel_rfl)) (fun _ _ _ h => h) (Or.inl ⟨by rfl, ?_⟩) ?_ ?_
         rotate_left
         ·intro w'
          go_simp
          with_reducible rfl
         rotate_left
         ·simp only [Act.put, List.setIfInBounds_toArray, List.set_cons_zero, List.set_cons_succ, i64_w, i32_w]
          rfl
         refine take_ (i := 7) (N := some 32) (v := ?_) (a' := ?_) #[true, true, true, true, true, true, true, true, true, false, true, false, false, false, false, false, false, false, false, false, false, false, false, false, false, false] rfl rfl (take_ofW HT_.out HW_.out (by kernel_rfl)) (fun _ _ _ h => h) (Or.inl ⟨by rfl, ?_⟩) hHeld ?_ ?_
         rotate_left
         ·rintro w' ⟨s0, s1, s2, s3, s4, s5⟩
          go_simp
          with_reducible rfl
         rotate_left
         ·simp only [Act.put, List.setIfInBounds_toArray, List.set_cons_zero, List.set_cons_succ, i64_w, i32_w]
          rfl
         refine take_ (i := 9) (N := some 34) (v := ?_) (a' := ?_) #[true, true, true, true, true, true, true, true, true, true, true, false, false, false, false, false, false, false, false, false, false, false, false, false, false, false] rfl rfl (take_ofW HT_.out HW_.out (by kernel_rfl)) (fun _ _ _ h => h) (Or.inl ⟨by rfl, ?_⟩) hHeld ?_ ?_
         rotate_left
         ·rintro w' ⟨s0, s1, s2, s3, s4, s5⟩
          go_simp
          with_reducible rfl
         rotate_left
         ·simp only [Act.put, List.setIfInBounds_toArray, List.set_cons_zero, List.set_cons_succ, i64_w, i32_w]
          rfl
         refine pure_ (i := 11) (N := some 36) (v := ?_) (a' := ?_) #[true, true, true, true, true, true, true, true, true, true, true, true, false, false, false, false, false, false, false, false, false, false, false, false, false, false] rfl rfl (any_of HT_.out (by kernel_rfl)) (fun _ _ _ h => h) (Or.inl ⟨by rfl, ?_⟩) ?_ ?_
         rotate_left
         ·intro w'
          go_simp
          with_reducible rfl
         rotate_left
         ·simp only [Act.put, List.setIfInBounds_toArray, List.set_cons_zero, List.set_cons_succ, i64_w, i32_w]
          rfl
         refine pure_ (i := 12) (N := some 37) (v := ?_) (a' := ?_) #[true, true, true, true, true, true, true, true, true, true, true, true, true, false, false, false, false, false, false, false, false, false, false, false, false, false] rfl rfl (any_of HT_.out (by kernel_rfl)) (fun _ _ _ h => h) (Or.inl ⟨by rfl, ?_⟩) ?_ ?_
         rotate_left
         ·intro w'
          go_simp
          with_reducible rfl
         rotate_left
         ·simp only [Act.put, List.setIfInBounds_toArray, List.set_cons_zero, List.set_cons_succ, i64_w, i32_w]
          rfl
         refine take_ (i := 13) (N := some 38) (v := ?_) (a' := ?_) #[true, true, true, true, true, true, true, true, true, true, true, true, true, true, false, false, false, false, false, false, false, false, false, false, false, false] rfl rfl (take_ofW HT_.out HW_.out (by kernel_rfl)) (fun _ _ _ h => h) (Or.inl ⟨by rfl, ?_⟩) hHeld ?_ ?_
         rotate_left
         ·rintro w' ⟨s0, s1, s2, s3, s4, s5⟩
          go_simp
          with_reducible rfl
         rotate_left
         ·simp only [Act.put, List.setIfInBounds_toArray, List.set_cons_zero, List.set_cons_succ, i64_w, i32_w]
          rfl
         refine pure_ (i := 14) (N := some 39) (v := ?_) (a' := ?_) #[true, true, true, true, true, true, true, true, true, true, true, true, true, true, true, false, false, false, false, false, false, false, false, false, false, false] rfl rfl (any_of HT_.out (by kernel_rfl)) (fun _ _ _ h => h) (Or.inl ⟨by rfl, ?_⟩) ?_ ?_
         rotate_left
         ·intro w'
          go_simp
          with_reducible rfl
         rotate_left
         ·simp only [Act.put, List.setIfInBounds_toArray, List.set_cons_zero, List.set_cons_succ, i64_w, i32_w]
          rfl
         refine pure_ (i := 15) (N := some 40) (v := ?_) (a' := ?_) #[true, true, true, true, true, true, true, true, true, true, true, true, true, true, true, true, false, false, false, false, false, false, false, false, false, false] rfl rfl (any_of HT_.out (by kernel_rfl)) (fun _ _ _ h => h) (Or.inl ⟨by rfl, ?_⟩) ?_ ?_
         rotate_left
         ·intro w'
          go_simp
          with_reducible rfl
         rotate_left
         ·simp only [Act.put, List.setIfInBounds_toArray, List.set_cons_zero, List.set_cons_succ, i64_w, i32_w]
          rfl
         refine pure_ (i := 16) (N := some 41) (v := ?_) (a' := ?_) #[true, true, true, true, true, true, true, true, true, true, true, true, true, true, true, true, true, false, false, false, false, false, false, false, false, false] rfl rfl (any_of HT_.out (by kernel_rfl)) (fun _ _ _ h => h) (Or.inl ⟨by rfl, ?_⟩) ?_ ?_
         rotate_left
         ·intro w'
          go_simp
          with_reducible rfl
         rotate_left
         ·simp only [Act.put, List.setIfInBounds_toArray, List.set_cons_zero, List.set_cons_succ, i64_w, i32_w]
          rfl
         refine pure_ (i := 17) (N := some 42) (v := ?_) (a' := ?_) #[true, true, true, true, true, true, true, true, true, true, true, true, true, true, true, true, true, true, false, false, false, false, false, false, false, false] rfl rfl (any_of HT_.out (by kernel_rfl)) (fun _ _ _ h => h) (Or.inl ⟨by rfl, ?_⟩) ?_ ?_
         rotate_left
         ·intro w'
          go_simp
          with_reducible rfl
         rotate_left
         ·simp only [Act.put, List.setIfInBounds_toArray, List.set_cons_zero, List.set_cons_succ, i64_w, i32_w]
          rfl
         refine pure_ (i := 18) (N := some 43) (v := undef) (a' := ?_) #[true, true, true, true, true, true, true, true, true, true, true, true, true, true, true, true, true, true, true, false, false, false, false, false, false, false] rfl rfl (any_of HT_.out (by kernel_rfl)) (fun _ _ _ h => h) (Or.inr ⟨by rfl, rfl⟩) ?_ ?_
         rotate_left
         ·simp only [Act.put, List.setIfInBounds_toArray, List.set_cons_zero, List.set_cons_succ, i64_w, i32_w]
          rfl
         refine pure_ (i := 19) (N := some 44) (v := undef) (a' := ?_) #[true, true, true, true, true, true, true, true, true, true, true, true, true, true, true, true, true, true, true, true, false, false, false, false, false, false] rfl rfl (any_of HT_.out (by kernel_rfl)) (fun _ _ _ h => h) (Or.inr ⟨by rfl, rfl⟩) ?_ ?_
         rotate_left
         ·simp only [Act.put, List.setIfInBounds_toArray, List.set_cons_zero, List.set_cons_succ, i64_w, i32_w]
          rfl
         refine pure_ (i := 20) (N := some 45) (v := undef) (a' := ?_) #[true, true, true, true, true, true, true, true, true, true, true, true, true, true, true, true, true, true, true, true, true, false, false, false, false, false] rfl rfl (any_of HT_.out (by kernel_rfl)) (fun _ _ _ h => h) (Or.inr ⟨by rfl, rfl⟩) ?_ ?_
         rotate_left
         ·simp only [Act.put, List.setIfInBounds_toArray, List.set_cons_zero, List.set_cons_succ, i64_w, i32_w]
          rfl
         refine pure_ (i := 21) (N := some 46) (v := undef) (a' := ?_) #[true, true, true, true, true, true, true, true, true, true, true, true, true, true, true, true, true, true, true, true, true, true, false, false, false, false] rfl rfl (any_of HT_.out (by kernel_rfl)) (fun _ _ _ h => h) (Or.inr ⟨by rfl, rfl⟩) ?_ ?_
         rotate_left
         ·simp only [Act.put, List.setIfInBounds_toArray, List.set_cons_zero, List.set_cons_succ, i64_w, i32_w]
          rfl
         refine pure_ (i := 22) (N := some 47) (v := undef) (a' := ?_) #[true, true, true, true, true, true, true, true, true, true, true, true, true, true, true, true, true, true, true, true, true, true, true, false, false, false] rfl rfl (any_of HT_.out (by kernel_rfl)) (fun _ _ _ h => h) (Or.inr ⟨by rfl, rfl⟩) ?_ ?_
         rotate_left
         ·simp only [Act.put, List.setIfInBounds_toArray, List.set_cons_zero, List.set_cons_succ, i64_w, i32_w]
          rfl
         refine pure_ (i := 23) (N := some 48) (v := undef) (a' := ?_) #[true, true, true, true, true, true, true, true, true, true, true, true, true, true, true, true, true, true, true, true, true, true, true, true, false, false] rfl rfl (any_of HT_.out (by kernel_rfl)) (fun _ _ _ h => h) (Or.inr ⟨by rfl, rfl⟩) ?_ ?_
         rotate_left
         ·simp only [Act.put, List.setIfInBounds_toArray, List.set_cons_zero, List.set_cons_succ, i64_w, i32_w]
          rfl
         refine pure_ (i := 24) (N := some 49) (v := undef) (a' := ?_) #[true, true, true, true, true, true, true, true, true, true, true, true, true, true, true, true, true, true, true, true, true, true, true, true, true, false] rfl rfl (any_of HT_.out (by kernel_rfl)) (fun _ _ _ h => h) (Or.inr ⟨by rfl, rfl⟩) ?_ ?_
         rotate_left
         ·simp only [Act.put, List.setIfInBounds_toArray, List.set_cons_zero, List.set_cons_succ, i64_w, i32_w]
          rfl
         refine pure_ (i := 25) (N := some 50) (v := ?_) (a' := ?_) #[true, true, true, true, true, true, true, true, true, true, true, true, true, true, true, true, true, true, true, true, true, true, true, true, true, true] rfl rfl (any_of HT_.out (by kernel_rfl)) (fun _ _ _ h => h) (Or.inl ⟨by rfl, ?_⟩) ?_ ?_
         rotate_left
         ·intro w'
          go_simp
          with_reducible rfl
         rotate_left
         ·simp only [Act.put, List.setIfInBounds_toArray, List.set_cons_zero, List.set_cons_succ, i64_w, i32_w]
          rfl
         refine done_ (done_of HT_.out (by kernel_rfl)) ?_
         try go_wp2
         go_meet
         case rel => exact ⟨_, (true), (by first | rfl | (simp; done) | (simp [*]; done) | (simp; exact (fun l : List UInt8 => (by cases l <;> rfl : l.isEmpty = !(l != []))) _)), H', ⟨by first | omega | exact Nat.le_refl _⟩, ⟨by (with_reducible repeat (first | apply Kd.R_alloc | apply Kd.R_drewN | apply Kd.R_drew)); exact HO196.out⟩, ⟨by (with_reducible repeat (first | refine blk_drewN ?_ _ | refine blk_drew ?_ | refine blk_alloc ?_ _)); exact BK191.out⟩, ⟨by (with_reducible repeat (first | refine blk_drewN ?_ _ | refine blk_drew ?_ | refine blk_alloc ?_ _)); exact BK197.out⟩, ⟨by (with_reducible repeat (first | refine blk_drewN ?_ _ | refine blk_drew ?_ | refine blk_alloc ?_ _)); exact BK201.out⟩, ⟨by repeat (first | (with_reducible first | exact HB.out | apply below_alloc | apply pw_below_drewN | apply below_drew1 | refine below_set ?_ GE191.out | refine below_set ?_ GE197.out | refine below_set ?_ GE201.out) | exact HB.out)⟩⟩
        ·rw [if_neg c37] at H
         have c37b0 : (!(t198.toList == (((rd_T37 t194 t202).f0.f0).toList)) || (!(t199 == ((rd_T37 t194 t202).f0.f1)))) = false := by simpa using c37
         clear c37
         have H' := Aside0.mk H
         clear H
         try go_wp2
         have n0_ := Aside0.mk (Kd.R_drew HO196.out)
         have n1_ := Aside0.mk (blk_drew BK191.out)
         have n2_ := Aside0.mk (blk_drew BK197.out)
         have n3_ := Aside0.mk (blk_drew BK201.out)
         have n4_ := Aside0.mk (below_drew1 HB.out)
         clear HO196
         clear BK191
         clear BK197
         clear BK201
         clear HB
         have HO196 := n0_
         have BK191 := n1_
         have BK197 := n2_
         have BK201 := n3_
         have HB := n4_
         clear n0_ n1_ n2_ n3_ n4_
         have p203 : 0 ≤ (t202 : Int) := of_decide_eq_true (by first | (with_reducible assumption) | assumption)
         have q203 : t202 < (t194.length : Int) := of_decide_eq_true (by first | (with_reducible assumption) | assumption)
         obtain ⟨ad203, e203, hx203_0, hx203_1, hx203_2⟩ := at_T37 (Kd.R_reads' HO196.out).2.2 t202 p203 q203
         cases e203
         replace p203 := eq_true p203
         replace q203 := eq_true q203
         refine start_ (n := 26) (S := fun w' => w'.cell? ⟨gb201, 0, none⟩ = some (.string t198) ∧ w'.cell? ⟨gb201, 1, none⟩ = some (.int .i64 t199) ∧ w'.cell? ⟨gb197, 0, none⟩ = some (.slice (some ad203) t194.length co21) ∧ w'.cell? (ad203.add ((t202).toNat * 3)) = some (.string ((rd_T37 t194 t202).f0.f0)) ∧ w'.cell? ⟨(ad203.add ((t202).toNat * 3)).block, (ad203.add ((t202).toNat * 3)).off + 1, none⟩ = some (.int .i64 ((rd_T37 t194 t202).f0.f1)) ∧ w'.cell? ⟨(ad203.add ((t202).toNat * 3)).block, (ad203.add ((t202).toNat * 3)).off + 2, none⟩ = some (.bool ((rd_T37 t194 t202).f1))) (ds := []) #[false, false, false, false, false, false, false, false, false, false, false, false, false, false, false, false, false, false, false, false, false, false, false, false, false, false] (by kernel_rfl) rfl rfl ⟨(blk_cell BK201.out 0).trans rfl, (blk_cell BK201.out 1).trans rfl, (blk_cell BK197.out 0).trans rfl, hx203_0, hx203_1, hx203_2⟩ (fun hHeld => ?_); refine with_tabW squelchlaw05_PathGoes.tab8 squelchlaw05_PathGoes.bits8 (fun HT_ HW_ => ?_)
         generalize w31.drew = w39 at HO196 BK191 BK197 BK201 HB hx203_0 hx203_1 hx203_2 hHeld ⊢
         refine pure_ (i := 0) (N := some 25) (v := ?_) (a' := ?_) #[true, false, false, false, false, false, false, false, false, false, false, false, false, false, false, false, false, false, false, false, false, false, false, false, false, false] rfl rfl (any_of HT_.out (by kernel_rfl)) (fun _ _ _ h => h) (Or.inl ⟨by rfl, ?_⟩) ?_ ?_
         rotate_left
         ·intro w'
          go_simp
          with_reducible rfl
         rotate_left
         ·simp only [Act.put, List.setIfInBounds_toArray, List.set_cons_zero, List.set_cons_succ, i64_w, i32_w]
          rfl
         refine pure_ (i := 1) (N := some 26) (v := ?_) (a' := ?_) #[true, true, false, false, false, false, false, false, false, false, false, false, false, false, false, false, false, false, false, false, false, false, false, false, false, false] rfl rfl (any_of HT_.out (by kernel_rfl)) (fun _ _ _ h => h) (Or.inl ⟨by rfl, ?_⟩) ?_ ?_
         rotate_left
         ·intro w'
          go_simp
          with_reducible rfl
         rotate_left
         ·simp only [Act.put, List.setIfInBounds_toArray, List.set_cons_zero, List.set_cons_succ, i64_w, i32_w]
          rfl
         refine pure_ (i := 2) (N := some 27) (v := ?_) (a' := ?_) #[true, true, true, false, false, false, false, false, false, false, false, false, false, false, false, false, false, false, false, false, false, false, false, false, false, false] rfl rfl (any_of HT_.out (by kernel_rfl)) (fun _ _ _ h => h) (Or.inl ⟨by rfl, ?_⟩) ?_ ?_
         rotate_left
         ·intro w'
          go_simp
          with_reducible rfl
         rotate_left
         ·simp only [Act.put, List.setIfInBounds_toArray, List.set_cons_zero, List.set_cons_succ, i64_w, i32_w]
          rfl
         refine pure_ (i := 3) (N := some 28) (v := ?_) (a' := ?_) #[true, true, true, true, false, false, false, false, false, false, false, false, false, false, false, false, false, false, false, false, false, false, false, false, false, false] rfl rfl (any_of HT_.out (by kernel_rfl)) (fun _ _ _ h => h) (Or.inl ⟨by rfl, ?_⟩) ?_ ?_
         rotate_left
         ·intro w'
          go_simp
          with_reducible rfl
         rotate_left
         ·simp only [Act.put, List.setIfInBounds_toArray, List.set_cons_zero, List.set_cons_succ, i64_w, i32_w]
          rfl
         refine pure_ (i := 4) (N := some 29) (v := ?_) (a' := ?_) #[true, true, true, true, true, false, false, false, false, false, false, false, false, false, false, false, false, false, false, false, false, false, false, false, false, false] rfl rfl (any_of HT_.out (by kernel_rfl)) (fun _ _ _ h => h) (Or.inl ⟨by rfl, ?_⟩) ?_ ?_
         rotate_left
         ·intro w'
          go_simp
          with_reducible rfl
         rotate_left
         ·simp only [Act.put, List.setIfInBounds_toArray, List.set_cons_zero, List.set_cons_succ, i64_w, i32_w]
          rfl
         refine pure_ (i := 5) (N := some 30) (v := ?_) (a' := ?_) #[true, true, true, true, true, true, false, false, false, false, false, false, false, false, false, false, false, false, false, false, false, false, false, false, false, false] rfl rfl (any_of HT_.out (by kernel_rfl)) (fun _ _ _ h => h) (Or.inl ⟨by rfl, ?_⟩) ?_ ?_
         rotate_left
         ·intro w'
          go_simp
          with_reducible rfl
         rotate_left
         ·simp only [Act.put, List.setIfInBounds_toArray, List.set_cons_zero, List.set_cons_succ, i64_w, i32_w]
          rfl
         refine pure_ (i := 6) (N := some 31) (v := ?_) (a' := ?_) #[true, true, true, true, true, true, true, false, false, false, false, false, false, false, false, false, false, false, false, false, false, false, false, false, false, false] rfl rfl (any_of HT_.out (by kernel_rfl)) (fun _ _ _ h => h) (Or.inl ⟨by rfl, ?_⟩) ?_ ?_
         rotate_left
         ·intro w'
          go_simp
          with_reducible rfl
         rotate_left
         ·simp only [Act.put, List.setIfInBounds_toArray, List.set_cons_zero, List.set_cons_succ, i64_w, i32_w]
          rfl
         refine pure_ (i := 8) (N := some 33) (v := ?_) (a' := ?_) #[true, true, true, true, true, true, true, false, true, false, false, false, false, false, false, false, false, false, false, false, false, false, false, false, false, false] rfl rfl (any_of HT_.out (by kernel_rfl)) (fun _ _ _ h => h) (Or.inl ⟨by rfl, ?_⟩) ?_ ?_
         rotate_left
         ·intro w'
          go_simp
          with_reducible rfl
         rotate_left
         ·simp only [Act.put, List.setIfInBounds_toArray, List.set_cons_zero, List.set_cons_succ, i64_w, i32_w]
          rfl
         refine pure_ (i := 10) (N := some 35) (v := ?_) (a' := ?_) #[true, true, true, true, true, true, true, false, true, false, true, false, false, false, false, false, false, false, false, false, false, false, false, false, false, false] rfl rfl (any_of HT_.out (by kernel_rfl)) (fun _ _ _ h => h) (Or.inl ⟨by rfl, ?_⟩) ?_ ?_
         rotate_left
         ·intro w'
          go_simp
          with_reducible rfl
         rotate_left
         ·simp only [Act.put, List.setIfInBounds_toArray, List.set_cons_zero, List.set_cons_succ, i64_w, i32_w]
          rfl
         refine take_ (i := 7) (N := some 32) (v := ?_) (a' := ?_) #[true, true, true, true, true, true, true, true, true, false, true, false, false, false, false, false, false, false, false, false, false, false, false, false, false, false] rfl rfl (take_ofW HT_.out HW_.out (by kernel_rfl)) (fun _ _ _ h => h) (Or.inl ⟨by rfl, ?_⟩) hHeld ?_ ?_
         rotate_left
         ·rintro w' ⟨s0, s1, s2, s3, s4, s5⟩
          go_simp
          with_reducible rfl
         rotate_left
         ·simp only [Act.put, List.setIfInBounds_toArray, List.set_cons_zero, List.set_cons_succ, i64_w, i32_w]
          rfl
         refine take_ (i := 9) (N := some 34) (v := ?_) (a' := ?_) #[true, true, true, true, true, true, true, true, true, true, true, false, false, false, false, false, false, false, false, false, false, false, false, false, false, false] rfl rfl (take_ofW HT_.out HW_.out (by kernel_rfl)) (fun _ _ _ h => h) (Or.inl ⟨by rfl, ?_⟩) hHeld ?_ ?_
         rotate_left
         ·rintro w' ⟨s0, s1, s2, s3, s4, s5⟩
          go_simp
          with_reducible rfl
         rotate_left
         ·simp only [Act.put, List.setIfInBounds_toArray, List.set_cons_zero, List.set_cons_succ, i64_w, i32_w]
          rfl
         refine pure_ (i := 11) (N := some 36) (v := ?_) (a' := ?_) #[true, true, true, true, true, true, true, true, true, true, true, true, false, false, false, false, false, false, false, false, false, false, false, false, false, false] rfl rfl (any_of HT_.out (by kernel_rfl)) (fun _ _ _ h => h) (Or.inl ⟨by rfl, ?_⟩) ?_ ?_
         rotate_left
         ·intro w'
          go_simp
          with_reducible rfl
         rotate_left
         ·simp only [Act.put, List.setIfInBounds_toArray, List.set_cons_zero, List.set_cons_succ, i64_w, i32_w]
          rfl
         refine pure_ (i := 12) (N := some 37) (v := ?_) (a' := ?_) #[true, true, true, true, true, true, true, true, true, true, true, true, true, false, false, false, false, false, false, false, false, false, false, false, false, false] rfl rfl (any_of HT_.out (by kernel_rfl)) (fun _ _ _ h => h) (Or.inl ⟨by rfl, ?_⟩) ?_ ?_
         rotate_left
         ·intro w'
          go_simp
          with_reducible rfl
         rotate_left
         ·simp only [Act.put, List.setIfInBounds_toArray, List.set_cons_zero, List.set_cons_succ, i64_w, i32_w]
          rfl
         refine take_ (i := 13) (N := some 38) (v := ?_) (a' := ?_) #[true, true, true, true, true, true, true, true, true, true, true, true, true, true, false, false, false, false, false, false, false, false, false, false, false, false] rfl rfl (take_ofW HT_.out HW_.out (by kernel_rfl)) (fun _ _ _ h => h) (Or.inl ⟨by rfl, ?_⟩) hHeld ?_ ?_
         rotate_left
         ·rintro w' ⟨s0, s1, s2, s3, s4, s5⟩
          go_simp
          with_reducible rfl
         rotate_left
         ·simp only [Act.put, List.setIfInBounds_toArray, List.set_cons_zero, List.set_cons_succ, i64_w, i32_w]
          rfl
         refine pure_ (i := 14) (N := some 39) (v := ?_) (a' := ?_) #[true, true, true, true, true, true, true, true, true, true, true, true, true, true, true, false, false, false, false, false, false, false, false, false, false, false] rfl rfl (any_of HT_.out (by kernel_rfl)) (fun _ _ _ h => h) (Or.inl ⟨by rfl, ?_⟩) ?_ ?_
         rotate_left
         ·intro w'
          go_simp
          with_reducible rfl
         rotate_left
         ·simp only [Act.put, List.setIfInBounds_toArray, List.set_cons_zero, List.set_cons_succ, i64_w, i32_w]
          rfl
         refine pure_ (i := 15) (N := some 40) (v := ?_) (a' := ?_) #[true, true, true, true, true, true, true, true, true, true, true, true, true, true, true, true, false, false, false, false, false, false, false, false, false, false] rfl rfl (any_of HT_.out (by kernel_rfl)) (fun _ _ _ h => h) (Or.inl ⟨by rfl, ?_⟩) ?_ ?_
         rotate_left
         ·intro w'
          go_simp
          with_reducible rfl
         rotate_left
         ·simp only [Act.put, List.setIfInBounds_toArray, List.set_cons_zero, List.set_cons_succ, i64_w, i32_w]
          rfl
         refine pure_ (i := 16) (N := some 41) (v := ?_) (a' := ?_) #[true, true, true, true, true, true, true, true, true, true, true, true, true, true, true, true, true, false, false, false, false, false, false, false, false, false] rfl rfl (any_of HT_.out (by kernel_rfl)) (fun _ _ _ h => h) (Or.inl ⟨by rfl, ?_⟩) ?_ ?_
         rotate_left
         ·intro w'
          go_simp
          with_reducible rfl
         rotate_left
         ·simp only [Act.put, List.setIfInBounds_toArray, List.set_cons_zero, List.set_cons_succ, i64_w, i32_w]
          rfl
         refine pure_ (i := 17) (N := some 42) (v := ?_) (a' := ?_) #[true, true, true, true, true, true, true, true, true, true, true, true, true, true, true, true, true, true, false, false, false, false, false, false, false, false] rfl rfl (any_of HT_.out (by kernel_rfl)) (fun _ _ _ h => h) (Or.inl ⟨by rfl, ?_⟩) ?_ ?_
         rotate_left
         ·intro w'
          go_simp
          with_reducible rfl
         rotate_left
         ·simp only [Act.put, List.setIfInBounds_toArray, List.set_cons_zero, List.set_cons_succ, i64_w, i32_w]
          rfl
         refine pure_ (i := 18) (N := some 43) (v := ?_) (a' := ?_) #[true, true, true, true, true, true, true, true, true, true, true, true, true, true, true, true, true, true, true, false, false, false, false, false, false, false] rfl rfl (any_of HT_.out (by kernel_rfl)) (fun _ _ _ h => h) (Or.inl ⟨by rfl, ?_⟩) ?_ ?_
         rotate_left
         ·intro w'
          go_simp
          with_reducible rfl
         rotate_left
         ·simp only [Act.put, List.setIfInBounds_toArray, List.set_cons_zero, List.set_cons_succ, i64_w, i32_w]
          rfl
         refine pure_ (i := 19) (N := some 44) (v := ?_) (a' := ?_) #[true, true, true, true, true, true, true, true, true, true, true, true, true, true, true, true, true, true, true, true, false, false, false, false, false, false] rfl rfl (any_of HT_.out (by kernel_rfl)) (fun _ _ _ h => h) (Or.inl ⟨by rfl, ?_⟩) ?_ ?_
         rotate_left
         ·intro w'
          go_simp
          with_reducible rfl
         rotate_left
         ·simp only [Act.put, List.setIfInBounds_toArray, List.set_cons_zero, List.set_cons_succ, i64_w, i32_w]
          rfl
         refine pure_ (i := 20) (N := some 45) (v := ?_) (a' := ?_) #[true, true, true, true, true, true, true, true, true, true, true, true, true, true, true, true, true, true, true, true, true, false, false, false, false, false] rfl rfl (any_of HT_.out (by kernel_rfl)) (fun _ _ _ h => h) (Or.inl ⟨by rfl, ?_⟩) ?_ ?_
         rotate_left
         ·intro w'
          go_simp
          with_reducible rfl
         rotate_left
         ·simp only [Act.put, List.setIfInBounds_toArray, List.set_cons_zero, List.set_cons_succ, i64_w, i32_w]
          rfl
         refine pure_ (i := 21) (N := some 46) (v := undef) (a' := ?_) #[true, true, true, true, true, true, true, true, true, true, true, true, true, true, true, true, true, true, true, true, true, true, false, false, false, false] rfl rfl (any_of HT_.out (by kernel_rfl)) (fun _ _ _ h => h) (Or.inr ⟨by rfl, rfl⟩) ?_ ?_
         rotate_left
         ·simp only [Act.put, List.setIfInBounds_toArray, List.set_cons_zero, List.set_cons_succ, i64_w, i32_w]
          rfl
         refine pure_ (i := 22) (N := some 47) (v := undef) (a' := ?_) #[true, true, true, true, true, true, true, true, true, true, true, true, true, true, true, true, true, true, true, true, true, true, true, false, false, false] rfl rfl (any_of HT_.out (by kernel_rfl)) (fun _ _ _ h => h) (Or.inr ⟨by rfl, rfl⟩) ?_ ?_
         rotate_left
         ·simp only [Act.put, List.setIfInBounds_toArray, List.set_cons_zero, List.set_cons_succ, i64_w, i32_w]
          rfl
         refine pure_ (i := 23) (N := some 48) (v := undef) (a' := ?_) #[true, true, true, true, true, true, true, true, true, true, true, true, true, true, true, true, true, true, true, true, true, true, true, true, false, false] rfl rfl (any_of HT_.out (by kernel_rfl)) (fun _ _ _ h => h) (Or.inr ⟨by rfl, rfl⟩) ?_ ?_
         rotate_left
         ·simp only [Act.put, List.setIfInBounds_toArray, List.set_cons_zero, List.set_cons_succ, i64_w, i32_w]
          rfl
         refine pure_ (i := 24) (N := some 49) (v := ?_) (a' := ?_) #[true, true, true, true, true, true, true, true, true, true, true, true, true, true, true, true, true, true, true, true, true, true, true, true, true, false] rfl rfl (any_of HT_.out (by kernel_rfl)) (fun _ _ _ h => h) (Or.inl ⟨by rfl, ?_⟩) ?_ ?_
         rotate_left
         ·intro w'
          go_simp
          with_reducible rfl
         rotate_left
         ·simp only [Act.put, List.setIfInBounds_toArray, List.set_cons_zero, List.set_cons_succ, i64_w, i32_w]
          rfl
         refine pure_ (i := 25) (N := some 50) (v := ?_) (a' := ?_) #[true, true, true, true, true, true, true, true, true, true, true, true, true, true, true, true, true, true, true, true, true, true, true, true, true, true] rfl rfl (any_of HT_.out (by kernel_rfl)) (fun _ _ _ h => h) (Or.inl ⟨by rfl, ?_⟩) ?_ ?_
         rotate_left
         ·intro w'
          go_simp
          with_reducible rfl
         rotate_left
         ·simp only [Act.put, List.setIfInBounds_toArray, List.set_cons_zero, List.set_cons_succ, i64_w, i32_w]
          rfl
         refine done_ (done_of HT_.out (by kernel_rfl)) ?_
         try go_wp2
         go_meet
         case rel => exact ⟨_, (false), (by first | rfl | (simp; done) | (simp [*]; done) | (simp; exact (fun l : List UInt8 => (by cases l <;> rfl : l.isEmpty = !(l != []))) _)), H', ⟨by first | omega | exact Nat.le_refl _⟩, ⟨by (with_reducible repeat (first | apply Kd.R_alloc | apply Kd.R_drewN | apply Kd.R_drew)); exact HO196.out⟩, ⟨by (with_reducible repeat (first | refine blk_drewN ?_ _ | refine blk_drew ?_ | refine blk_alloc ?_ _)); exact BK191.out⟩, ⟨by (with_reducible repeat (first | refine blk_drewN ?_ _ | refine blk_drew ?_ | refine blk_alloc ?_ _)); exact BK197.out⟩, ⟨by (with_reducible repeat (first | refine blk_drewN ?_ _ | refine blk_drew ?_ | refine blk_alloc ?_ _)); exact BK201.out⟩, ⟨by repeat (first | (with_reducible first | exact HB.out | apply below_alloc | apply pw_below_drewN | apply below_drew1 | refine below_set ?_ GE191.out | refine below_set ?_ GE197.out | refine below_set ?_ GE201.out) | exact HB.out)⟩⟩
       ·rw [if_neg c36] at H
        exact absurd H (by simp)
      ·rw [if_neg c35] at H
       exact absurd H (by simp)
     ·replace c34 := Bool.eq_false_iff.mpr c34
      subst c34
      (try simp only [Bool.true_beq, Bool.false_beq, beq_true, beq_false] at c32b0)
      have H1 : (squelchlaw05_PathGoes.j0 k (!(t198.toList == ([] : List UInt8)) || (!(t199 == 0))) a0_0 a0_1 a0_2 a0_3 a0_4 a0_5 l0_6 t194) = some r := by rw [if_neg (show ¬ (false = true) by decide)] at H; exact H
      clear H
      have H := H1
      clear H1
      have H' := Aside0.mk H
      clear H
      try go_wp2
      have n0_ := Aside0.mk (Kd.R_drew HO196.out)
      have n1_ := Aside0.mk (blk_drew BK191.out)
      have n2_ := Aside0.mk (blk_drew BK197.out)
      have n3_ := Aside0.mk (blk_drew BK201.out)
      have n4_ := Aside0.mk (below_drew1 HB.out)
      clear HO196
      clear BK191
      clear BK197
      clear BK201
      clear HB
      have HO196 := n0_
      have BK191 := n1_
      have BK197 := n2_
      have BK201 := n3_
      have HB := n4_
      clear n0_ n1_ n2_ n3_ n4_
      refine start_ (n := 26) (S := fun w' => w'.cell? ⟨gb201, 0, none⟩ = some (.string t198) ∧ w'.cell? ⟨gb201, 1, none⟩ = some (.int .i64 t199)) (ds := []) #[false, false, false, false, false, false, false, false, false, false, false, false, false, false, false, false, false, false, false, false, false, false, false, false, false, false] (by kernel_rfl) rfl rfl ⟨(blk_cell BK201.out 0).trans rfl, (blk_cell BK201.out 1).trans rfl⟩ (fun hHeld => ?_); refine with_tabW squelchlaw05_PathGoes.tab8 squelchlaw05_PathGoes.bits8 (fun HT_ HW_ => ?_)
      generalize w31.drew = w40 at HO196 BK191 BK197 BK201 HB hHeld ⊢
      refine pure_ (i := 0) (N := some 25) (v := ?_) (a' := ?_) #[true, false, false, false, false, false, false, false, false, false, false, false, false, false, false, false, false, false, false, false, false, false, false, false, false, false] rfl rfl (any_of HT_.out (by kernel_rfl)) (fun _ _ _ h => h) (Or.inl ⟨by rfl, ?_⟩) ?_ ?_
      rotate_left
      ·intro w'
       go_simp
       with_reducible rfl
      rotate_left
      ·simp only [Act.put, List.setIfInBounds_toArray, List.set_cons_zero, List.set_cons_succ, i64_w, i32_w]
       rfl
      refine pure_ (i := 1) (N := some 26) (v := ?_) (a' := ?_) #[true, true, false, false, false, false, false, false, false, false, false, false, false, false, false, false, false, false, false, false, false, false, false, false, false, false] rfl rfl (any_of HT_.out (by kernel_rfl)) (fun _ _ _ h => h) (Or.inl ⟨by rfl, ?_⟩) ?_ ?_
      rotate_left
      ·intro w'
       go_simp
       with_reducible rfl
      rotate_left
      ·simp only [Act.put, List.setIfInBounds_toArray, List.set_cons_zero, List.set_cons_succ, i64_w, i32_w]
       rfl
      refine pure_ (i := 2) (N := some 27) (v := ?_) (a' := ?_) #[true, true, true, false, false, false, false, false, false, false, false, false, false, false, false, false, false, false, false, false, false, false, false, false, false, false] rfl rfl (any_of HT_.out (by kernel_rfl)) (fun _ _ _ h => h) (Or.inl ⟨by rfl, ?_⟩) ?_ ?_
      rotate_left
      ·intro w'
       go_simp
       with_reducible rfl
      rotate_left
      ·simp only [Act.put, List.setIfInBounds_toArray, List.set_cons_zero, List.set_cons_succ, i64_w, i32_w]
       rfl
      refine pure_ (i := 3) (N := some 28) (v := ?_) (a' := ?_) #[true, true, true, true, false, false, false, false, false, false, false, false, false, false, false, false, false, false, false, false, false, false, false, false, false, false] rfl rfl (any_of HT_.out (by kernel_rfl)) (fun _ _ _ h => h) (Or.inl ⟨by rfl, ?_⟩) ?_ ?_
      rotate_left
      ·intro w'
       go_simp
       with_reducible rfl
      rotate_left
      ·simp only [Act.put, List.setIfInBounds_toArray, List.set_cons_zero, List.set_cons_succ, i64_w, i32_w]
       rfl
      refine pure_ (i := 4) (N := some 29) (v := ?_) (a' := ?_) #[true, true, true, true, true, false, false, false, false, false, false, false, false, false, false, false, false, false, false, false, false, false, false, false, false, false] rfl rfl (any_of HT_.out (by kernel_rfl)) (fun _ _ _ h => h) (Or.inl ⟨by rfl, ?_⟩) ?_ ?_
      rotate_left
      ·intro w'
       go_simp
       with_reducible rfl
      rotate_left
      ·simp only [Act.put, List.setIfInBounds_toArray, List.set_cons_zero, List.set_cons_succ, i64_w, i32_w]
       rfl
      refine pure_ (i := 5) (N := some 30) (v := ?_) (a' := ?_) #[true, true, true, true, true, true, false, false, false, false, false, false, false, false, false, false, false, false, false, false, false, false, false, false, false, false] rfl rfl (any_of HT_.out (by kernel_rfl)) (fun _ _ _ h => h) (Or.inl ⟨by rfl, ?_⟩) ?_ ?_
      rotate_left
      ·intro w'
       go_simp
       with_reducible rfl
      rotate_left
      ·simp only [Act.put, List.setIfInBounds_toArray, List.set_cons_zero, List.set_cons_succ, i64_w, i32_w]
       rfl
      refine pure_ (i := 6) (N := some 31) (v := ?_) (a' := ?_) #[true, true, true, true, true, true, true, false, false, false, false, false, false, false, false, false, false, false, false, false, false, false, false, false, false, false] rfl rfl (any_of HT_.out (by kernel_rfl)) (fun _ _ _ h => h) (Or.inl ⟨by rfl, ?_⟩) ?_ ?_
      rotate_left
      ·intro w'
       go_simp
       with_reducible rfl
      rotate_left
      ·simp only [Act.put, List.setIfInBounds_toArray, List.set_cons_zero, List.set_cons_succ, i64_w, i32_w]
       rfl
      refine pure_ (i := 7) (N := some 32) (v := undef) (a' := ?_) #[true, true, true, true, true, true, true, true, false, false, false, false, false, false, false, false, false, false, false, false, false, false, false, false, false, false] rfl rfl (any_of HT_.out (by kernel_rfl)) (fun _ _ _ h => h) (Or.inr ⟨by rfl, rfl⟩) ?_ ?_
      rotate_left
      ·simp only [Act.put, List.setIfInBounds_toArray, List.set_cons_zero, List.set_cons_succ, i64_w, i32_w]
       rfl
      refine pure_ (i := 8) (N := some 33) (v := undef) (a' := ?_) #[true, true, true, true, true, true, true, true, true, false, false, false, false, false, false, false, false, false, false, false, false, false, false, false, false, false] rfl rfl (any_of HT_.out (by kernel_rfl)) (fun _ _ _ h => h) (Or.inr ⟨by rfl, rfl⟩) ?_ ?_
      rotate_left
      ·simp only [Act.put, List.setIfInBounds_toArray, List.set_cons_zero, List.set_cons_succ, i64_w, i32_w]
       rfl
      refine pure_ (i := 9) (N := some 34) (v := undef) (a' := ?_) #[true, true, true, true, true, true, true, true, true, true, false, false, false, false, false, false, false, false, false, false, false, false, false, false, false, false] rfl rfl (any_of HT_.out (by kernel_rfl)) (fun _ _ _ h => h) (Or.inr ⟨by rfl, rfl⟩) ?_ ?_
      rotate_left
      ·simp only [Act.put, List.setIfInBounds_toArray, List.set_cons_zero, List.set_cons_succ, i64_w, i32_w]
       rfl
      refine pure_ (i := 10) (N := some 35) (v := undef) (a' := ?_) #[true, true, true, true, true, true, true, true, true, true, true, false, false, false, false, false, false, false, false, false, false, false, false, false, false, false] rfl rfl (any_of HT_.out (by kernel_rfl)) (fun _ _ _ h => h) (Or.inr ⟨by rfl, rfl⟩) ?_ ?_
      rotate_left
      ·simp only [Act.put, List.setIfInBounds_toArray, List.set_cons_zero, List.set_cons_succ, i64_w, i32_w]
       rfl
      refine pure_ (i := 11) (N := some 36) (v := undef) (a' := ?_) #[true, true, true, true, true, true, true, true, true, true, true, true, false, false, false, false, false, false, false, false, false, false, false, false, false, false] rfl rfl (any_of HT_.out (by kernel_rfl)) (fun _ _ _ h => h) (Or.inr ⟨by rfl, rfl⟩) ?_ ?_
      rotate_left
      ·simp only [Act.put, List.setIfInBounds_toArray, List.set_cons_zero, List.set_cons_succ, i64_w, i32_w]
       rfl
      refine pure_ (i := 12) (N := some 37) (v := undef) (a' := ?_) #[true, true, true, true, true, true, true, true, true, true, true, true, true, false, false, false, false, false, false, false, false, false, false, false, false, false] rfl rfl (any_of HT_.out (by kernel_rfl)) (fun _ _ _ h => h) (Or.inr ⟨by rfl, rfl⟩) ?_ ?_
      rotate_left
      ·simp only [Act.put, List.setIfInBounds_toArray, List.set_cons_zero, List.set_cons_succ, i64_w, i32_w]
       rfl
      refine pure_ (i := 13) (N := some 38) (v := undef) (a' := ?_) #[true, true, true, true, true, true, true, true, true, true, true, true, true, true, false, false, false, false, false, false, false, false, false, false, false, false] rfl rfl (any_of HT_.out (by kernel_rfl)) (fun _ _ _ h => h) (Or.inr ⟨by rfl, rfl⟩) ?_ ?_
      rotate_left
      ·simp only [Act.put, List.setIfInBounds_toArray, List.set_cons_zero, List.set_cons_succ, i64_w, i32_w]
       rfl
      refine pure_ (i := 14) (N := some 39) (v := undef) (a' := ?_) #[true, true, true, true, true, true, true, true, true, true, true, true, true, true, true, false, false, false, false, false, false, false, false, false, false, false] rfl rfl (any_of HT_.out (by kernel_rfl)) (fun _ _ _ h => h) (Or.inr ⟨by rfl, rfl⟩) ?_ ?_
      rotate_left
      ·simp only [Act.put, List.setIfInBounds_toArray, List.set_cons_zero, List.set_cons_succ, i64_w, i32_w]
       rfl
      refine pure_ (i := 15) (N := some 40) (v := ?_) (a' := ?_) #[true, true, true, true, true, true, true, true, true, true, true, true, true, true, true, true, false, false, false, false, false, false, false, false, false, false] rfl rfl (any_of HT_.out (by kernel_rfl)) (fun _ _ _ h => h) (Or.inl ⟨by rfl, ?_⟩) ?_ ?_
      rotate_left
      ·intro w'
       go_simp
       with_reducible rfl
      rotate_left
      ·simp only [Act.put, List.setIfInBounds_toArray, List.set_cons_zero, List.set_cons_succ, i64_w, i32_w]
       rfl
      refine pure_ (i := 16) (N := some 41) (v := ?_) (a' := ?_) #[true, true, true, true, true, true, true, true, true, true, true, true, true, true, true, true, true, false, false, false, false, false, false, false, false, false] rfl rfl (any_of HT_.out (by kernel_rfl)) (fun _ _ _ h => h) (Or.inl ⟨by rfl, ?_⟩) ?_ ?_
      rotate_left
      ·intro w'
       go_simp
       with_reducible rfl
      rotate_left
      ·simp only [Act.put, List.setIfInBounds_toArray, List.set_cons_zero, List.set_cons_succ, i64_w, i32_w]
       rfl
      refine pure_ (i := 17) (N := some 42) (v := ?_) (a' := ?_) #[true, true, true, true, true, true, true, true, true, true, true, true, true, true, true, true, true, true, false, false, false, false, false, false, false, false] rfl rfl (any_of HT_.out (by kernel_rfl)) (fun _ _ _ h => h) (Or.inl ⟨by rfl, ?_⟩) ?_ ?_
      rotate_left
      ·intro w'
       go_simp
       with_reducible rfl
      rotate_left
      ·simp only [Act.put, List.setIfInBounds_toArray, List.set_cons_zero, List.set_cons_succ, i64_w, i32_w]
       rfl
      refine pure_ (i := 18) (N := some 43) (v := ?_) (a' := ?_) #[true, true, true, true, true, true, true, true, true, true, true, true, true, true, true, true, true, true, true, false, false, false, false, false, false, false] rfl rfl (any_of HT_.out (by kernel_rfl)) (fun _ _ _ h => h) (Or.inl ⟨by rfl, ?_⟩) ?_ ?_
      rotate_left
      ·intro w'
       go_simp
       with_reducible rfl
      rotate_left
      ·simp only [Act.put, List.setIfInBounds_toArray, List.set_cons_zero, List.set_cons_succ, i64_w, i32_w]
       rfl
      refine pure_ (i := 19) (N := some 44) (v := ?_) (a' := ?_) #[true, true, true, true, true, true, true, true, true, true, true, true, true, true, true, true, true, true, true, true, false, false, false, false, false, false] rfl rfl (any_of HT_.out (by kernel_rfl)) (fun _ _ _ h => h) (Or.inl ⟨by rfl, ?_⟩) ?_ ?_
      rotate_left
      ·intro w'
       go_simp
       with_reducible rfl
      rotate_left
      ·simp only [Act.put, List.setIfInBounds_toArray, List.set_cons_zero, List.set_cons_succ, i64_w, i32_w]
       rfl
      refine pure_ (i := 20) (N := some 45) (v := ?_) (a' := ?_) #[true, true, true, true, true, true, true, true, true, true, true, true, true, true, true, true, true, true, true, true, true, false, false, false, false, false] rfl rfl (any_of HT_.out (by kernel_rfl)) (fun _ _ _ h => h) (Or.inl ⟨by rfl, ?_⟩) ?_ ?_
      rotate_left
      ·intro w'
       go_simp
       with_reducible rfl
      rotate_left
      ·simp only [Act.put, List.setIfInBounds_toArray, List.set_cons_zero, List.set_cons_succ, i64_w, i32_w]
       rfl
      refine pure_ (i := 22) (N := some 47) (v := ?_) (a' := ?_) #[true, true, true, true, true, true, true, true, true, true, true, true, true, true, true, true, true, true, true, true, true, false, true, false, false, false] rfl rfl (any_of HT_.out (by kernel_rfl)) (fun _ _ _ h => h) (Or.inl ⟨by rfl, ?_⟩) ?_ ?_
      rotate_left
      ·intro w'
       go_simp
       with_reducible rfl
      rotate_left
      ·simp only [Act.put, List.setIfInBounds_toArray, List.set_cons_zero, List.set_cons_succ, i64_w, i32_w]
       rfl
      refine take_ (i := 21) (N := some 46) (v := ?_) (a' := ?_) #[true, true, true, true, true, true, true, true, true, true, true, true, true, true, true, true, true, true, true, true, true, true, true, false, false, false] rfl rfl (take_ofW HT_.out HW_.out (by kernel_rfl)) (fun _ _ _ h => h) (Or.inl ⟨by rfl, ?_⟩) hHeld ?_ ?_
      rotate_left
      ·rintro w' ⟨s0, s1⟩
       go_simp
       with_reducible rfl
      rotate_left
      ·simp only [Act.put, List.setIfInBounds_toArray, List.set_cons_zero, List.set_cons_succ, i64_w, i32_w]
       rfl
      refine pure_ (i := 23) (N := some 48) (v := ?_) (a' := ?_) #[true, true, true, true, true, true, true, true, true, true, true, true, true, true, true, true, true, true, true, true, true, true, true, true, false, false] rfl rfl (any_of HT_.out (by kernel_rfl)) (fun _ _ _ h => h) (Or.inl ⟨by rfl, ?_⟩) ?_ ?_
      rotate_left
      ·intro w'
       go_simp
       with_reducible rfl
      rotate_left
      ·simp only [Act.put, List.setIfInBounds_toArray, List.set_cons_zero, List.set_cons_succ, i64_w, i32_w]
       rfl
      refine pure_ (i := 24) (N := some 49) (v := ?_) (a' := ?_) #[true, true, true, true, true, true, true, true, true, true, true, true, true, true, true, true, true, true, true, true, true, true, true, true, true, false] rfl rfl (any_of HT_.out (by kernel_rfl)) (fun _ _ _ h => h) (Or.inl ⟨by rfl, ?_⟩) ?_ ?_
      rotate_left
      ·intro w'
       go_simp
       with_reducible rfl
      rotate_left
      ·simp only [Act.put, List.setIfInBounds_toArray, List.set_cons_zero, List.set_cons_succ, i64_w, i32_w]
       rfl
      refine pure_ (i := 25) (N := some 50) (v := ?_) (a' := ?_) #[true, true, true, true, true, true, true, true, true, true, true, true, true, true, true, true, true, true, true, true, true, true, true, true, true, true] rfl rfl (any_of HT_.out (by kernel_rfl)) (fun _ _ _ h => h) (Or.inl ⟨by rfl, ?_⟩) ?_ ?_
      rotate_left
      ·intro w'
       go_simp
       with_reducible rfl
      rotate_left
      ·simp only [Act.put, List.setIfInBounds_toArray, List.set_cons_zero, List.set_cons_succ, i64_w, i32_w]
       rfl
      refine done_ (done_of HT_.out (by kernel_rfl)) ?_
      try go_wp2
      go_meet
      case rel => exact ⟨_, ((!(t198.toList == ([] : List UInt8)) || (!(t199 == 0)))), (by first | rfl | (simp; done) | (simp [*]; done) | (simp; exact (fun l : List UInt8 => (by cases l <;> rfl : l.isEmpty = !(l != []))) _)), H', ⟨by first | omega | exact Nat.le_refl _⟩, ⟨by (with_reducible repeat (first | apply Kd.R_alloc | apply Kd.R_drewN | apply Kd.R_drew)); exact HO196.out⟩, ⟨by (with_reducible repeat (first | refine blk_drewN ?_ _ | refine blk_drew ?_ | refine blk_alloc ?_ _)); exact BK191.out⟩, ⟨by (with_reducible repeat (first | refine blk_drewN ?_ _ | refine blk_drew ?_ | refine blk_alloc ?_ _)); exact BK197.out⟩, ⟨by (with_reducible repeat (first | refine blk_drewN ?_ _ | refine blk_drew ?_ | refine blk_alloc ?_ _)); exact BK201.out⟩, ⟨by repeat (first | (with_reducible first | exact HB.out | apply below_alloc | apply pw_below_drewN | apply below_drew1 | refine below_set ?_ GE191.out | refine below_set ?_ GE197.out | refine below_set ?_ GE201.out) | exact HB.out)⟩⟩
   case rest =>
    clear HC13
    try clear p2
    try clear q2
    try clear hx2
    try clear c3
    try clear p20
    try clear q20
    try clear hx20
    try clear c32
    try clear c32b0
    try clear c34
    try clear c35
    try clear c36
    try clear c37
    try clear c37b0
    try clear hx203_0
    try clear hx203_1
    try clear hx203_2
    try clear p203
    try clear q203
    obtain ⟨kq, x50_12, rfl, HA, HJ12, HO_198000, BK191, BK197, BK201, HB⟩ := hcut
    cases kq with
    | zero => exact absurd HA.out (by simp [squelchlaw05_PathGoes.j0])
    | succ kj12 =>
     have H := HA.out
     clear HA
     simp only [squelchlaw05_PathGoes.j0] at H
     by_cases c41 : x50_12 = true
     ·subst c41
      have H1 : (some false) = some r := by rw [if_pos rfl] at H; exact H
      clear H
      have H := H1
      clear H1
      exact absurd ((Option.some.inj H).trans HT_.out) (by decide)
     ·replace c41 := Bool.eq_false_iff.mpr c41
      subst c41
      have H1 : ((path_Sent.f a0_0 a0_1 a0_2 a0_3 a0_4 a0_5 l0_6).bind fun bt204 => ((squelchref05_Sent.f kj12 t194).bind fun bt215 => ((path_Back.f a0_0 a0_1 a0_2 a0_3 a0_4 a0_5 l0_6).bind fun bt220 => (if (bt204.2.2.2.2.2.2.2 == bt215.2) = true then ((squelchlaw05_Plain.f kj12 bt204.1 bt204.2.1 bt204.2.2.1 bt204.2.2.2.1 bt204.2.2.2.2.1 bt204.2.2.2.2.2.1 bt204.2.2.2.2.2.2.1).bind fun t230 => ((squelchref05_Same.f kj12 t230 bt215.1).bind fun t233 => (if t233 = true then ((squelchlaw05_Plain.f kj12 bt220.1 bt220.2.1 bt220.2.2.1 bt220.2.2.2.1 bt220.2.2.2.2.1 bt220.2.2.2.2.2.1 bt220.2.2.2.2.2.2).bind fun t234 => ((squelchref05_Back.f kj12 t194).bind fun t237 => ((squelchref05_Same.f kj12 t234 t237).bind fun t240 => (if t240 = true then ((squelchlaw05_Plain.f kj12 a0_0 a0_1 a0_2 a0_3 a0_4 a0_5 l0_6).bind fun t241 => ((squelchref05_Same.f kj12 t241 t194).bind fun t244 => (if t244 = true then ((path_Command.f a0_0 a0_1 a0_2 a0_3 a0_4 a0_5 l0_6).bind fun t245 => (if a0_4 = true then (if (t245 == (!a0_5)) = true then ((path_Response.f a0_0 a0_1 a0_2 a0_3 a0_4 a0_5 l0_6).bind fun t246 => (some (t246 == false))) else (some false)) else (if (t245 == false) = true then ((path_Response.f a0_0 a0_1 a0_2 a0_3 a0_4 a0_5 l0_6).bind fun t247 => (some (t247 == a0_5))) else (some false)))) else (some false)))) else (some false))))) else (some false)))) else (some false))))) = some r := by rw [if_neg (show ¬ (false = true) by decide)] at H; exact H
      clear H
      have H := H1
      clear H1
      replace H := Option.bind_eq_some_iff.mp H
      obtain ⟨⟨t204, t205, t206, t207, t208, t209, t210, t213⟩, A420, H⟩ := H
      replace H : ((squelchref05_Sent.f kj12 t194).bind fun bt215 => ((path_Back.f a0_0 a0_1 a0_2 a0_3 a0_4 a0_5 l0_6).bind fun bt220 => (if (t213 == bt215.2) = true then ((squelchlaw05_Plain.f kj12 t204 t205 t206 t207 t208 t209 t210).bind fun t230 => ((squelchref05_Same.f kj12 t230 bt215.1).bind fun t233 => (if t233 = true then ((squelchlaw05_Plain.f kj12 bt220.1 bt220.2.1 bt220.2.2.1 bt220.2.2.2.1 bt220.2.2.2.2.1 bt220.2.2.2.2.2.1 bt220.2.2.2.2.2.2).bind fun t234 => ((squelchref05_Back.f kj12 t194).bind fun t237 => ((squelchref05_Same.f kj12 t234 t237).bind fun t240 => (if t240 = true then ((squelchlaw05_Plain.f kj12 a0_0 a0_1 a0_2 a0_3 a0_4 a0_5 l0_6).bind fun t241 => ((squelchref05_Same.f kj12 t241 t194).bind fun t244 => (if t244 = true then ((path_Command.f a0_0 a0_1 a0_2 a0_3 a0_4 a0_5 l0_6).bind fun t245 => (if a0_4 = true then (if (t245 == (!a0_5)) = true then ((path_Response.f a0_0 a0_1 a0_2 a0_3 a0_4 a0_5 l0_6).bind fun t246 => (some (t246 == false))) else (some false)) else (if (t245 == false) = true then ((path_Response.f a0_0 a0_1 a0_2 a0_3 a0_4 a0_5 l0_6).bind fun t247 => (some (t247 == a0_5))) else (some false)))) else (some false)))) else (some false))))) else (some false)))) else (some false)))) = some r := H
      have A42 := Aside0.mk A420
      clear A420
      replace H := Option.bind_eq_some_iff.mp H
      obtain ⟨⟨t215, t218⟩, A430, H⟩ := H
      replace H : ((path_Back.f a0_0 a0_1 a0_2 a0_3 a0_4 a0_5 l0_6).bind fun bt220 => (if (t213 == t218) = true then ((squelchlaw05_Plain.f kj12 t204 t205 t206 t207 t208 t209 t210).bind fun t230 => ((squelchref05_Same.f kj12 t230 t215).bind fun t233 => (if t233 = true then ((squelchlaw05_Plain.f kj12 bt220.1 bt220.2.1 bt220.2.2.1 bt220.2.2.2.1 bt220.2.2.2.2.1 bt220.2.2.2.2.2.1 bt220.2.2.2.2.2.2).bind fun t234 => ((squelchref05_Back.f kj12 t194).bind fun t237 => ((squelchref05_Same.f kj12 t234 t237).bind fun t240 => (if t240 = true then ((squelchlaw05_Plain.f kj12 a0_0 a0_1 a0_2 a0_3 a0_4 a0_5 l0_6).bind fun t241 => ((squelchref05_Same.f kj12 t241 t194).bind fun t244 => (if t244 = true then ((path_Command.f a0_0 a0_1 a0_2 a0_3 a0_4 a0_5 l0_6).bind fun t245 => (if a0_4 = true then (if (t245 == (!a0_5)) = true then ((path_Response.f a0_0 a0_1 a0_2 a0_3 a0_4 a0_5 l0_6).bind fun t246 => (some (t246 == false))) else (some false)) else (if (t245 == false) = true then ((path_Response.f a0_0 a0_1 a0_2 a0_3 a0_4 a0_5 l0_6).bind fun t247 => (some (t247 == a0_5))) else (some false)))) else (some false)))) else (some false))))) else (some false)))) else (some false))) = some r := H
      have A43 := Aside0.mk A430
      clear A430
      replace H := Option.bind_eq_some_iff.mp H
      obtain ⟨⟨t220, t221, t222, t223, t224, t225, t226⟩, A440, H⟩ := H
      replace H : (if (t213 == t218) = true then ((squelchlaw05_Plain.f kj12 t204 t205 t206 t207 t208 t209 t210).bind fun t230 => ((squelchref05_Same.f kj12 t230 t215).bind fun t233 => (if t233 = true then ((squelchlaw05_Plain.f kj12 t220 t221 t222 t223 t224 t225 t226).bind fun t234 => ((squelchref05_Back.f kj12 t194).bind fun t237 => ((squelchref05_Same.f kj12 t234 t237).bind fun t240 => (if t240 = true then ((squelchlaw05_Plain.f kj12 a0_0 a0_1 a0_2 a0_3 a0_4 a0_5 l0_6).bind fun t241 => ((squelchref05_Same.f kj12 t241 t194).bind fun t244 => (if t244 = true then ((path_Command.f a0_0 a0_1 a0_2 a0_3 a0_4 a0_5 l0_6).bind fun t245 => (if a0_4 = true then (if (t245 == (!a0_5)) = true then ((path_Response.f a0_0 a0_1 a0_2 a0_3 a0_4 a0_5 l0_6).bind fun t246 => (some (t246 == false))) else (some false)) else (if (t245 == false) = true then ((path_Response.f a0_0 a0_1 a0_2 a0_3 a0_4 a0_5 l0_6).bind fun t247 => (some (t247 == a0_5))) else (some false)))) else (some false)))) else (some false))))) else (some false)))) else (some false)) = some r := H
      have A44 := Aside0.mk A440
      clear A440
      by_cases c45 : (t213 == t218) = true
      ·rw [if_pos c45] at H
       have c45b0 : (t213 == t218) = true := c45
       (try (have c45b1 : decide (t213 = t218) = true := by simpa using c45))
       (try (have c45b2 : (t213 == t218) = true := by simpa using c45))
       clear c45
       replace H := Option.bind_eq_some_iff.mp H
       obtain ⟨t230, A460, H⟩ := H
       replace H : ((squelchref05_Same.f kj12 t230 t215).bind fun t233 => (if t233 = true then ((squelchlaw05_Plain.f kj12 t220 t221 t222 t223 t224 t225 t226).bind fun t234 => ((squelchref05_Back.f kj12 t194).bind fun t237 => ((squelchref05_Same.f kj12 t234 t237).bind fun t240 => (if t240 = true then ((squelchlaw05_Plain.f kj12 a0_0 a0_1 a0_2 a0_3 a0_4 a0_5 l0_6).bind fun t241 => ((squelchref05_Same.f kj12 t241 t194).bind fun t244 => (if t244 = true then ((path_Command.f a0_0 a0_1 a0_2 a0_3 a0_4 a0_5 l0_6).bind fun t245 => (if a0_4 = true then (if (t245 == (!a0_5)) = true then ((path_Response.f a0_0 a0_1 a0_2 a0_3 a0_4 a0_5 l0_6).bind fun t246 => (some (t246 == false))) else (some false)) else (if (t245 == false) = true then ((path_Response.f a0_0 a0_1 a0_2 a0_3 a0_4 a0_5 l0_6).bind fun t247 => (some (t247 == a0_5))) else (some false)))) else (some false)))) else (some false))))) else (some false))) = some r := H
       have A46 := Aside0.mk A460
       clear A460
       replace H := Option.bind_eq_some_iff.mp H
       obtain ⟨t233, A470, H⟩ := H
       replace H : (if t233 = true then ((squelchlaw05_Plain.f kj12 t220 t221 t222 t223 t224 t225 t226).bind fun t234 => ((squelchref05_Back.f kj12 t194).bind fun t237 => ((squelchref05_Same.f kj12 t234 t237).bind fun t240 => (if t240 = true then ((squelchlaw05_Plain.f kj12 a0_0 a0_1 a0_2 a0_3 a0_4 a0_5 l0_6).bind fun t241 => ((squelchref05_Same.f kj12 t241 t194).bind fun t244 => (if t244 = true then ((path_Command.f a0_0 a0_1 a0_2 a0_3 a0_4 a0_5 l0_6).bind fun t245 => (if a0_4 = true then (if (t245 == (!a0_5)) = true then ((path_Response.f a0_0 a0_1 a0_2 a0_3 a0_4 a0_5 l0_6).bind fun t246 => (some (t246 == false))) else (some false)) else (if (t245 == false) = true then ((path_Response.f a0_0 a0_1 a0_2 a0_3 a0_4 a0_5 l0_6).bind fun t247 => (some (t247 == a0_5))) else (some false)))) else (some false)))) else (some false))))) else (some false)) = some r := H
       have A47 := Aside0.mk A470
       clear A470
       by_cases c48 : t233 = true
       ·subst c48
        have H1 : ((squelchlaw05_Plain.f kj12 t220 t221 t222 t223 t224 t225 t226).bind fun t234 => ((squelchref05_Back.f kj12 t194).bind fun t237 => ((squelchref05_Same.f kj12 t234 t237).bind fun t240 => (if t240 = true then ((squelchlaw05_Plain.f kj12 a0_0 a0_1 a0_2 a0_3 a0_4 a0_5 l0_6).bind fun t241 => ((squelchref05_Same.f kj12 t241 t194).bind fun t244 => (if t244 = true then ((path_Command.f a0_0 a0_1 a0_2 a0_3 a0_4 a0_5 l0_6).bind fun t245 => (if a0_4 = true then (if (t245 == (!a0_5)) = true then ((path_Response.f a0_0 a0_1 a0_2 a0_3 a0_4 a0_5 l0_6).bind fun t246 => (some (t246 == false))) else (some false)) else (if (t245 == false) = true then ((path_Response.f a0_0 a0_1 a0_2 a0_3 a0_4 a0_5 l0_6).bind fun t247 => (some (t247 == a0_5))) else (some false)))) else (some false)))) else (some false))))) = some r := by rw [if_pos rfl] at H; exact H
        clear H
        have H := H1
        clear H1
        replace H := Option.bind_eq_some_iff.mp H
        obtain ⟨t234, A490, H⟩ := H
        replace H : ((squelchref05_Back.f kj12 t194).bind fun t237 => ((squelchref05_Same.f kj12 t234 t237).bind fun t240 => (if t240 = true then ((squelchlaw05_Plain.f kj12 a0_0 a0_1 a0_2 a0_3 a0_4 a0_5 l0_6).bind fun t241 => ((squelchref05_Same.f kj12 t241 t194).bind fun t244 => (if t244 = true then ((path_Command.f a0_0 a0_1 a0_2 a0_3 a0_4 a0_5 l0_6).bind fun t245 => (if a0_4 = true then (if (t245 == (!a0_5)) = true then ((path_Response.f a0_0 a0_1 a0_2 a0_3 a0_4 a0_5 l0_6).bind fun t246 => (some (t246 == false))) else (some false)) else (if (t245 == false) = true then ((path_Response.f a0_0 a0_1 a0_2 a0_3 a0_4 a0_5 l0_6).bind fun t247 => (some (t247 == a0_5))) else (some false)))) else (some false)))) else (some false)))) = some r := H
        have A49 := Aside0.mk A490
        clear A490
        replace H := Option.bind_eq_some_iff.mp H
        obtain ⟨t237, A500, H⟩ := H
        replace H : ((squelchref05_Same.f kj12 t234 t237).bind fun t240 => (if t240 = true then ((squelchlaw05_Plain.f kj12 a0_0 a0_1 a0_2 a0_3 a0_4 a0_5 l0_6).bind fun t241 => ((squelchref05_Same.f kj12 t241 t194).bind fun t244 => (if t244 = true then ((path_Command.f a0_0 a0_1 a0_2 a0_3 a0_4 a0_5 l0_6).bind fun t245 => (if a0_4 = true then (if (t245 == (!a0_5)) = true then ((path_Response.f a0_0 a0_1 a0_2 a0_3 a0_4 a0_5 l0_6).bind fun t246 => (some (t246 == false))) else (some false)) else (if (t245 == false) = true then ((path_Response.f a0_0 a0_1 a0_2 a0_3 a0_4 a0_5 l0_6).bind fun t247 => (some (t247 == a0_5))) else (some false)))) else (some false)))) else (some false))) = some r := H
        have A50 := Aside0.mk A500
        clear A500
        replace H := Option.bind_eq_some_iff.mp H
        obtain ⟨t240, A510, H⟩ := H
        replace H : (if t240 = true then ((squelchlaw05_Plain.f kj12 a0_0 a0_1 a0_2 a0_3 a0_4 a0_5 l0_6).bind fun t241 => ((squelchref05_Same.f kj12 t241 t194).bind fun t244 => (if t244 = true then ((path_Command.f a0_0 a0_1 a0_2 a0_3 a0_4 a0_5 l0_6).bind fun t245 => (if a0_4 = true then (if (t245 == (!a0_5)) = true then ((path_Response.f a0_0 a0_1 a0_2 a0_3 a0_4 a0_5 l0_6).bind fun t246 => (some (t246 == false))) else (some false)) else (if (t245 == false) = true then ((path_Response.f a0_0 a0_1 a0_2 a0_3 a0_4 a0_5 l0_6).bind fun t247 => (some (t247 == a0_5))) else (some false)))) else (some false)))) else (some false)) = some r := H
        have A51 := Aside0.mk A510
        clear A510
        by_cases c52 : t240 = true
        ·subst c52
         have H1 : ((squelchlaw05_Plain.f kj12 a0_0 a0_1 a0_2 a0_3 a0_4 a0_5 l0_6).bind fun t241 => ((squelchref05_Same.f kj12 t241 t194).bind fun t244 => (if t244 = true then ((path_Command.f a0_0 a0_1 a0_2 a0_3 a0_4 a0_5 l0_6).bind fun t245 => (if a0_4 = true then (if (t245 == (!a0_5)) = true then ((path_Response.f a0_0 a0_1 a0_2 a0_3 a0_4 a0_5 l0_6).bind fun t246 => (some (t246 == false))) else (some false)) else (if (t245 == false) = true then ((path_Response.f a0_0 a0_1 a0_2 a0_3 a0_4 a0_5 l0_6).bind fun t247 => (some (t247 == a0_5))) else (some false)))) else (some false)))) = some r := by rw [if_pos rfl] at H; exact H
         clear H
         have H := H1
         clear H1
         replace H := Option.bind_eq_some_iff.mp H
         obtain ⟨t241, A530, H⟩ := H
         replace H : ((squelchref05_Same.f kj12 t241 t194).bind fun t244 => (if t244 = true then ((path_Command.f a0_0 a0_1 a0_2 a0_3 a0_4 a0_5 l0_6).bind fun t245 => (if a0_4 = true then (if (t245 == (!a0_5)) = true then ((path_Response.f a0_0 a0_1 a0_2 a0_3 a0_4 a0_5 l0_6).bind fun t246 => (some (t246 == false))) else (some false)) else (if (t245 == false) = true then ((path_Response.f a0_0 a0_1 a0_2 a0_3 a0_4 a0_5 l0_6).bind fun t247 => (some (t247 == a0_5))) else (some false)))) else (some false))) = some r := H
         have A53 := Aside0.mk A530
         clear A530
         replace H := Option.bind_eq_some_iff.mp H
         obtain ⟨t244, A540, H⟩ := H
         replace H : (if t244 = true then ((path_Command.f a0_0 a0_1 a0_2 a0_3 a0_4 a0_5 l0_6).bind fun t245 => (if a0_4 = true then (if (t245 == (!a0_5)) = true then ((path_Response.f a0_0 a0_1 a0_2 a0_3 a0_4 a0_5 l0_6).bind fun t246 => (some (t246 == false))) else (some false)) else (if (t245 == false) = true then ((path_Response.f a0_0 a0_1 a0_2 a0_3 a0_4 a0_5 l0_6).bind fun t247 => (some (t247 == a0_5))) else (some false)))) else (some false)) = some r := H
         have A54 := Aside0.mk A540
         clear A540
         by_cases c55 : t244 = true
         ·subst c55
          have H1 : ((path_Command.f a0_0 a0_1 a0_2 a0_3 a0_4 a0_5 l0_6).bind fun t245 => (if a0_4 = true then (if (t245 == (!a0_5)) = true then ((path_Response.f a0_0 a0_1 a0_2 a0_3 a0_4 a0_5 l0_6).bind fun t246 => (some (t246 == false))) else (some false)) else (if (t245 == false) = true then ((path_Response.f a0_0 a0_1 a0_2 a0_3 a0_4 a0_5 l0_6).bind fun t247 => (some (t247 == a0_5))) else (some false)))) = some r := by rw [if_pos rfl] at H; exact H
          clear H
          have H := H1
          clear H1
          replace H := Option.bind_eq_some_iff.mp H
          obtain ⟨t245, A560, H⟩ := H
          replace H : (if a0_4 = true then (if (t245 == (!a0_5)) = true then ((path_Response.f a0_0 a0_1 a0_2 a0_3 a0_4 a0_5 l0_6).bind fun t246 => (some (t246 == false))) else (some false)) else (if (t245 == false) = true then ((path_Response.f a0_0 a0_1 a0_2 a0_3 a0_4 a0_5 l0_6).bind fun t247 => (some (t247 == a0_5))) else (some false))) = some r := H
          have A56 := Aside0.mk A560
          clear A560
          by_cases c57 : a0_4 = true
          ·exact absurd (HS_.out.symm.trans c57) (by decide)
          ·replace c57 := Bool.eq_false_iff.mpr c57
           subst c57
           have H1 : (if (t245 == false) = true then ((path_Response.f a0_0 a0_1 a0_2 a0_3 false a0_5 l0_6).bind fun t247 => (some (t247 == a0_5))) else (some false)) = some r := by rw [if_neg (show ¬ (false = true) by decide)] at H; exact H
           clear H
           have H := H1
           clear H1
           by_cases c105 : (t245 == false) = true
           ·rw [if_pos c105] at H
            have c105b0 : (t245 == false) = true := c105
            (try (have c105b1 : decide (t245 = false) = true := by simpa using c105))
            (try (have c105b2 : (t245 == false) = true := by simpa using c105))
            clear c105
            replace H := Option.bind_eq_some_iff.mp H
            obtain ⟨t247, A1060, H⟩ := H
            replace H : (some (t247 == a0_5)) = some r := H
            have A106 := Aside0.mk A1060
            clear A1060
            obtain rfl := Option.some.inj H
            have hnb107 := NB191_197.out
            have hnc107 := NB197_191.out
            have hnb108 := NB191_201.out
            have hnc108 := NB201_191.out
            have hcz109_0 : wc.cell? ⟨gb191, 0, none⟩ = some (.string a0_0) := (blk_cell BK191.out 0).trans rfl
            have hcz109_1 : wc.cell? ⟨gb191, 1, none⟩ = some (.int .i64 a0_1) := (blk_cell BK191.out 1).trans rfl
            have hcz109_2 : wc.cell? ⟨gb191, 2, none⟩ = some (.string a0_2) := (blk_cell BK191.out 2).trans rfl
            have hcz109_3 : wc.cell? ⟨gb191, 3, none⟩ = some (.int .i64 a0_3) := (blk_cell BK191.out 3).trans rfl
            have hcz109_4 : wc.cell? ⟨gb191, 4, none⟩ = some (.bool false) := (blk_cell BK191.out 4).trans rfl
            have hcz109_5 : wc.cell? ⟨gb191, 5, none⟩ = some (.bool a0_5) := (blk_cell BK191.out 5).trans rfl
            have hcz109_6 : wc.cell? ⟨gb191, 6, none⟩ = some (.slice A0_6 l0_6.length c0_6) := (blk_cell BK191.out 6).trans rfl
            have hfz109_0 := blk_frozen BK191.out 0
            have hfz109_1 := blk_frozen BK191.out 1
            have hfz109_2 := blk_frozen BK191.out 2
            have hfz109_3 := blk_frozen BK191.out 3
            have hfz109_4 := blk_frozen BK191.out 4
            have hfz109_5 := blk_frozen BK191.out 5
            have hfz109_6 := blk_frozen BK191.out 6
            try go_wp2_with (first | ((with_reducible refine gate_callee (f := 20) rfl ?_); refine goesL_ (some 53) rfl rfl Tryd.func20 (by kernel_rfl) rfl #[.agg #[.string a0_0, .int .i64 a0_1, .string a0_2, .int .i64 a0_3, .bool false, .bool a0_5, .slice A0_6 l0_6.length c0_6]] rfl (by (try simp only [List.map_toArray, List.map_cons, List.map_nil]); first | done | rfl | (simp only [List.length_drop, List.length_take]; rfl)) ?_; (with_reducible refine (path_Sent.calls a0_0 a0_1 a0_2 a0_3 false a0_5 _ _ l0_6 t204 t205 t206 t207 t208 t209 t210 t213 _ ?side1 ?side2 A42.out).mono ?_); (case side1 => repeat (first | exact (Kd.C_below HR0_6.out HB.out) | (with_reducible refine Kd.C_alloc ?_ _) | (with_reducible refine Kd.C_drewN ?_ _) | (with_reducible refine Kd.C_drew ?_))); (case side2 => exact HC0_6.out); rintro e w110 ⟨v211, rfl, ho0, hb⟩; refine ⟨_, rfl, ?_⟩; have n0_ := Aside0.mk (Kd.R_below (by (with_reducible repeat (first | apply Kd.R_alloc | apply Kd.R_drewN | apply Kd.R_drew)); exact HO_198000.out) hb); have n1_ := Aside0.mk (Kd.R_lower ho0 (below_size (by repeat (first | (with_reducible first | exact HB.out | apply below_alloc | apply pw_below_drewN | apply below_drew1 | refine below_set ?_ GE191.out | refine below_set ?_ GE197.out | refine below_set ?_ GE201.out) | exact HB.out)))); have n2_ := Aside0.mk (blk_below (g := gb191) (o := .cells #[.string a0_0, .int .i64 a0_1, .string a0_2, .int .i64 a0_3, .bool false, .bool a0_5, .slice A0_6 l0_6.length c0_6] 26 (0, 0)) (by (with_reducible repeat (first | refine blk_drewN ?_ _ | refine blk_drew ?_ | refine blk_alloc ?_ _)); exact BK191.out) hb); have n3_ := Aside0.mk (blk_below (g := gb197) (o := .cells #[.slice Ao21 t194.length co21] 31 (0, 0)) (by (with_reducible repeat (first | refine blk_drewN ?_ _ | refine blk_drew ?_ | refine blk_alloc ?_ _)); exact BK197.out) hb); have n4_ := Aside0.mk (blk_below (g := gb201) (o := .cells #[.string t198, .int .i64 t199] 23 (0, 0)) (by (with_reducible repeat (first | refine blk_drewN ?_ _ | refine blk_drew ?_ | refine blk_alloc ?_ _)); exact BK201.out) hb); have n5_ := Aside0.mk (below_step (by repeat (first | (with_reducible first | exact HB.out | apply below_alloc | apply pw_below_drewN | apply below_drew1 | refine below_set ?_ GE191.out | refine below_set ?_ GE197.out | refine below_set ?_ GE201.out) | exact HB.out)) hb); clear HO_198000; clear BK191; clear BK197; clear BK201; clear HB; have HO_198000 := n0_; have HO212 := n1_; have BK191 := n2_; have BK197 := n3_; have BK201 := n4_; have HB := n5_; clear n0_ n1_ n2_ n3_ n4_ n5_; (try clear hb); (try clear hb2); (try clear hk); (try clear hi); (try clear ho0)) | ((with_reducible refine gate_dst (N := 7) rfl ?_); refine box_event ?hg (N := 7) ?hd (cs := #[.string (⟨#[]⟩ : ByteArray), .int .i64 0, .string (⟨#[]⟩ : ByteArray), .int .i64 0, .bool false, .bool false, .slice none 0 0]) (t := 26) ?hr ?_; (case hd => rfl); (case hg => rfl); (case hr => first | (go_simp; done) | (go_simp; rfl)); intro gb214 hg w111 hbox hb; have n0_ := Aside0.mk (Kd.R_below (by (with_reducible repeat (first | apply Kd.R_alloc | apply Kd.R_drewN | apply Kd.R_drew)); exact HO_198000.out) hb); have n1_ := Aside0.mk (Kd.R_below (by (with_reducible repeat (first | apply Kd.R_alloc | apply Kd.R_drewN | apply Kd.R_drew)); exact HO212.out) hb); have n2_ := Aside0.mk (blk_below (g := gb191) (o := .cells #[.string a0_0, .int .i64 a0_1, .string a0_2, .int .i64 a0_3, .bool false, .bool a0_5, .slice A0_6 l0_6.length c0_6] 26 (0, 0)) (by (with_reducible repeat (first | refine blk_drewN ?_ _ | refine blk_drew ?_ | refine blk_alloc ?_ _)); exact BK191.out) hb); have n3_ := Aside0.mk (blk_below (g := gb197) (o := .cells #[.slice Ao21 t194.length co21] 31 (0, 0)) (by (with_reducible repeat (first | refine blk_drewN ?_ _ | refine blk_drew ?_ | refine blk_alloc ?_ _)); exact BK197.out) hb); have n4_ := Aside0.mk (blk_below (g := gb201) (o := .cells #[.string t198, .int .i64 t199] 23 (0, 0)) (by (with_reducible repeat (first | refine blk_drewN ?_ _ | refine blk_drew ?_ | refine blk_alloc ?_ _)); exact BK201.out) hb); have n5_ := Aside0.mk (below_step (by repeat (first | (with_reducible first | exact HB.out | apply below_alloc | apply pw_below_drewN | apply below_drew1 | refine below_set ?_ GE191.out | refine below_set ?_ GE197.out | refine below_set ?_ GE201.out) | exact HB.out)) hb); have n6_ := Aside0.mk (hbox); have n7_ := Aside0.mk ((by rw [hg]; exact (below_size (by repeat (first | (with_reducible first | exact HB.out | apply below_alloc | apply pw_below_drewN | apply below_drew1 | refine below_set ?_ GE191.out | refine below_set ?_ GE197.out | refine below_set ?_ GE201.out) | exact HB.out))) : w.heap.size ≤ gb214)); have n8_ := Aside0.mk ((by rw [hg]; exact (below_size (by repeat (first | (with_reducible first | exact HB.out | apply below_alloc | apply pw_below_drewN | apply below_drew1 | refine below_set ?_ GE191.out | refine below_set ?_ GE197.out | refine below_set ?_ GE201.out) | exact HB.out))) : w.heap.size ≤ gb214)); have n9_ := Aside0.mk ((by rw [hg]; exact Nat.ne_of_lt (blk_lt (g := gb191) (o := .cells #[.string a0_0, .int .i64 a0_1, .string a0_2, .int .i64 a0_3, .bool false, .bool a0_5, .slice A0_6 l0_6.length c0_6] 26 (0, 0)) (by (with_reducible repeat (first | refine blk_drewN ?_ _ | refine blk_drew ?_ | refine blk_alloc ?_ _)); exact BK191.out)) : gb191 ≠ gb214)); have n10_ := Aside0.mk ((by rw [hg]; exact Nat.ne_of_gt (blk_lt (g := gb191) (o := .cells #[.string a0_0, .int .i64 a0_1, .string a0_2, .int .i64 a0_3, .bool false, .bool a0_5, .slice A0_6 l0_6.length c0_6] 26 (0, 0)) (by (with_reducible repeat (first | refine blk_drewN ?_ _ | refine blk_drew ?_ | refine blk_alloc ?_ _)); exact BK191.out)) : gb214 ≠ gb191)); have n11_ := Aside0.mk ((by rw [hg]; exact Nat.ne_of_lt (blk_lt (g := gb197) (o := .cells #[.slice Ao21 t194.length co21] 31 (0, 0)) (by (with_reducible repeat (first | refine blk_drewN ?_ _ | refine blk_drew ?_ | refine blk_alloc ?_ _)); exact BK197.out)) : gb197 ≠ gb214)); have n12_ := Aside0.mk ((by rw [hg]; exact Nat.ne_of_gt (blk_lt (g := gb197) (o := .cells #[.slice Ao21 t194.length co21] 31 (0, 0)) (by (with_reducible repeat (first | refine blk_drewN ?_ _ | refine blk_drew ?_ | refine blk_alloc ?_ _)); exact BK197.out)) : gb214 ≠ gb197)); have n13_ := Aside0.mk ((by rw [hg]; exact Nat.ne_of_lt (blk_lt (g := gb201) (o := .cells #[.string t198, .int .i64 t199] 23 (0, 0)) (by (with_reducible repeat (first | refine blk_drewN ?_ _ | refine blk_drew ?_ | refine blk_alloc ?_ _)); exact BK201.out)) : gb201 ≠ gb214)); have n14_ := Aside0.mk ((by rw [hg]; exact Nat.ne_of_gt (blk_lt (g := gb201) (o := .cells #[.string t198, .int .i64 t199] 23 (0, 0)) (by (with_reducible repeat (first | refine blk_drewN ?_ _ | refine blk_drew ?_ | refine blk_alloc ?_ _)); exact BK201.out)) : gb214 ≠ gb201)); clear HO_198000; clear HO212; clear BK191; clear BK197; clear BK201; clear HB; have HO_198000 := n0_; have HO212 := n1_; have BK191 := n2_; have BK197 := n3_; have BK201 := n4_; have HB := n5_; have BK214 := n6_; have GW214 := n7_; have GE214 := n8_; have NB191_214 := n9_; have NB214_191 := n10_; have NB197_214 := n11_; have NB214_197 := n12_; have NB201_214 := n13_; have NB214_201 := n14_; clear n0_ n1_ n2_ n3_ n4_ n5_ n6_ n7_ n8_ n9_ n10_ n11_ n12_ n13_ n14_; clear hb hbox hg; have hnb112 := NB214_191.out; have hnc112 := NB191_214.out; have hnb113 := NB214_197.out; have hnc113 := NB197_214.out; have hnb114 := NB214_201.out; have hnc114 := NB201_214.out; have hcz115_0 : w111.cell? ⟨gb214, 0, none⟩ = some (.string (⟨#[]⟩ : ByteArray)) := (blk_cell BK214.out 0).trans rfl; have hcz115_1 : w111.cell? ⟨gb214, 1, none⟩ = some (.int .i64 0) := (blk_cell BK214.out 1).trans rfl; have hcz115_2 : w111.cell? ⟨gb214, 2, none⟩ = some (.string (⟨#[]⟩ : ByteArray)) := (blk_cell BK214.out 2).trans rfl; have hcz115_3 : w111.cell? ⟨gb214, 3, none⟩ = some (.int .i64 0) := (blk_cell BK214.out 3).trans rfl; have hcz115_4 : w111.cell? ⟨gb214, 4, none⟩ = some (.bool false) := (blk_cell BK214.out 4).trans rfl; have hcz115_5 : w111.cell? ⟨gb214, 5, none⟩ = some (.bool false) := (blk_cell BK214.out 5).trans rfl; have hcz115_6 : w111.cell? ⟨gb214, 6, none⟩ = some (.slice none 0 0) := (blk_cell BK214.out 6).trans rfl; have hfz115_0 := blk_frozen BK214.out 0; have hfz115_1 := blk_frozen BK214.out 1; have hfz115_2 := blk_frozen BK214.out 2; have hfz115_3 := blk_frozen BK214.out 3; have hfz115_4 := blk_frozen BK214.out 4; have hfz115_5 := blk_frozen BK214.out 5; have hfz115_6 := blk_frozen BK214.out 6; obtain ⟨Ao116, co116, eo116⟩ := Kd.R_slice HO212.out; subst eo116; have hnb117 := NB197_201.out; have hnc117 := NB201_197.out; have hcz118_0 : w111.cell? ⟨gb197, 0, none⟩ = some (.slice Ao21 t194.length co21) := (blk_cell BK197.out 0).trans rfl; have hfz118_0 := blk_frozen BK197.out 0) | ((with_reducible refine gate_callee (f := 21) rfl ?_); refine goesL_ (some 58) rfl rfl Tryd.func21 (by kernel_rfl) rfl #[.agg #[.slice Ao21 t194.length co21]] rfl (by (try simp only [List.map_toArray, List.map_cons, List.map_nil]); first | done | rfl | (simp only [List.length_drop, List.length_take]; rfl)) ?_; (with_reducible refine (squelchref05_Sent.calls kj12 _ _ t194 t215 t218 _ ?side1 ?side2 A43.out).mono ?_); (case side1 => refine (Kd.R_reads' (e := 37) (base := w.heap.size) (ok := fun k_ => True) (n := t194.length) (c := co21) ?_).2.2; exact (by (with_reducible repeat (first | apply Kd.R_alloc | apply Kd.R_drewN | apply Kd.R_drew)); exact (Kd.R_mono (Kd.R_far (p := ⟨gb214, 6, none⟩) (Kd.R_far (p := ⟨gb214, 5, none⟩) (Kd.R_far (p := ⟨gb214, 4, none⟩) (Kd.R_far (p := ⟨gb214, 3, none⟩) (Kd.R_far (p := ⟨gb214, 2, none⟩) (Kd.R_far (p := ⟨gb214, 1, none⟩) (Kd.R_far (p := ⟨gb214, 0, none⟩) (Kd.R_types HO_198000.out BK214.out (by decide)) (fun _ hk => hk.2) (.string t204)) (fun _ hk => hk.2) (.int .i64 t205)) (fun _ hk => hk.2) (.string t206)) (fun _ hk => hk.2) (.int .i64 t207)) (fun _ hk => hk.2) (.bool t208)) (fun _ hk => hk.2) (.bool t209)) (fun _ hk => hk.2) (.slice Ao116 t210.length co116)) (fun _ h_ => h_.1)))); (case side2 => exact (Kd.R_reads' HO_198000.out).2.1); rintro e w119 ⟨v216, rfl, ho0, hb⟩; refine ⟨_, rfl, ?_⟩; have n0_ := Aside0.mk (Kd.R_elder' (by (with_reducible repeat (first | apply Kd.R_alloc | apply Kd.R_drewN | apply Kd.R_drew)); exact (Kd.R_mono (Kd.R_far (p := ⟨gb214, 6, none⟩) (Kd.R_far (p := ⟨gb214, 5, none⟩) (Kd.R_far (p := ⟨gb214, 4, none⟩) (Kd.R_far (p := ⟨gb214, 3, none⟩) (Kd.R_far (p := ⟨gb214, 2, none⟩) (Kd.R_far (p := ⟨gb214, 1, none⟩) (Kd.R_far (p := ⟨gb214, 0, none⟩) (Kd.R_types HO_198000.out BK214.out (by decide)) (fun _ hk => hk.2) (.string t204)) (fun _ hk => hk.2) (.int .i64 t205)) (fun _ hk => hk.2) (.string t206)) (fun _ hk => hk.2) (.int .i64 t207)) (fun _ hk => hk.2) (.bool t208)) (fun _ hk => hk.2) (.bool t209)) (fun _ hk => hk.2) (.slice Ao116 t210.length co116)) (fun _ h_ => h_.1))) (Kd.R_base ho0) hb); have n1_ := Aside0.mk (Kd.R_below (by (with_reducible repeat (first | apply Kd.R_alloc | apply Kd.R_drewN | apply Kd.R_drew)); exact (Kd.R_mono (Kd.R_far (p := ⟨gb214, 6, none⟩) (Kd.R_far (p := ⟨gb214, 5, none⟩) (Kd.R_far (p := ⟨gb214, 4, none⟩) (Kd.R_far (p := ⟨gb214, 3, none⟩) (Kd.R_far (p := ⟨gb214, 2, none⟩) (Kd.R_far (p := ⟨gb214, 1, none⟩) (Kd.R_far (p := ⟨gb214, 0, none⟩) (Kd.R_types HO212.out BK214.out (by decide)) (fun _ hk => hk.2) (.string t204)) (fun _ hk => hk.2) (.int .i64 t205)) (fun _ hk => hk.2) (.string t206)) (fun _ hk => hk.2) (.int .i64 t207)) (fun _ hk => hk.2) (.bool t208)) (fun _ hk => hk.2) (.bool t209)) (fun _ hk => hk.2) (.slice Ao116 t210.length co116)) (fun _ h_ => h_.1))) hb); have n2_ := Aside0.mk (Kd.R_lower (Kd.R_new' ho0 (Kd.R_lt (by (with_reducible repeat (first | apply Kd.R_alloc | apply Kd.R_drewN | apply Kd.R_drew)); exact (Kd.R_mono (Kd.R_far (p := ⟨gb214, 6, none⟩) (Kd.R_far (p := ⟨gb214, 5, none⟩) (Kd.R_far (p := ⟨gb214, 4, none⟩) (Kd.R_far (p := ⟨gb214, 3, none⟩) (Kd.R_far (p := ⟨gb214, 2, none⟩) (Kd.R_far (p := ⟨gb214, 1, none⟩) (Kd.R_far (p := ⟨gb214, 0, none⟩) (Kd.R_types HO_198000.out BK214.out (by decide)) (fun _ hk => hk.2) (.string t204)) (fun _ hk => hk.2) (.int .i64 t205)) (fun _ hk => hk.2) (.string t206)) (fun _ hk => hk.2) (.int .i64 t207)) (fun _ hk => hk.2) (.bool t208)) (fun _ hk => hk.2) (.bool t209)) (fun _ hk => hk.2) (.slice Ao116 t210.length co116)) (fun _ h_ => h_.1))))) (below_size (by repeat (first | (with_reducible first | exact HB.out | apply below_alloc | apply pw_below_drewN | apply below_drew1 | refine below_set ?_ GE191.out | refine below_set ?_ GE197.out | refine below_set ?_ GE201.out | refine below_set ?_ GE214.out) | exact HB.out)))); have n3_ := Aside0.mk (blk_below (g := gb191) (o := .cells #[.string a0_0, .int .i64 a0_1, .string a0_2, .int .i64 a0_3, .bool false, .bool a0_5, .slice A0_6 l0_6.length c0_6] 26 (0, 0)) (by (with_reducible repeat (first | refine blk_drewN ?_ _ | refine blk_drew ?_ | refine blk_alloc ?_ _)); refine blk_far ?_ NB191_214.out _; (with_reducible repeat (first | refine blk_drewN ?_ _ | refine blk_drew ?_ | refine blk_alloc ?_ _)); refine blk_far ?_ NB191_214.out _; (with_reducible repeat (first | refine blk_drewN ?_ _ | refine blk_drew ?_ | refine blk_alloc ?_ _)); refine blk_far ?_ NB191_214.out _; (with_reducible repeat (first | refine blk_drewN ?_ _ | refine blk_drew ?_ | refine blk_alloc ?_ _)); refine blk_far ?_ NB191_214.out _; (with_reducible repeat (first | refine blk_drewN ?_ _ | refine blk_drew ?_ | refine blk_alloc ?_ _)); refine blk_far ?_ NB191_214.out _; (with_reducible repeat (first | refine blk_drewN ?_ _ | refine blk_drew ?_ | refine blk_alloc ?_ _)); refine blk_far ?_ NB191_214.out _; (with_reducible repeat (first | refine blk_drewN ?_ _ | refine blk_drew ?_ | refine blk_alloc ?_ _)); refine blk_far ?_ NB191_214.out _; (with_reducible repeat (first | refine blk_drewN ?_ _ | refine blk_drew ?_ | refine blk_alloc ?_ _)); exact BK191.out) hb); have n4_ := Aside0.mk (blk_below (g := gb197) (o := .cells #[.slice Ao21 t194.length co21] 31 (0, 0)) (by (with_reducible repeat (first | refine blk_drewN ?_ _ | refine blk_drew ?_ | refine blk_alloc ?_ _)); refine blk_far ?_ NB197_214.out _; (with_reducible repeat (first | refine blk_drewN ?_ _ | refine blk_drew ?_ | refine blk_alloc ?_ _)); refine blk_far ?_ NB197_214.out _; (with_reducible repeat (first | refine blk_drewN ?_ _ | refine blk_drew ?_ | refine blk_alloc ?_ _)); refine blk_far ?_ NB197_214.out _; (with_reducible repeat (first | refine blk_drewN ?_ _ | refine blk_drew ?_ | refine blk_alloc ?_ _)); refine blk_far ?_ NB197_214.out _; (with_reducible repeat (first | refine blk_drewN ?_ _ | refine blk_drew ?_ | refine blk_alloc ?_ _)); refine blk_far ?_ NB197_214.out _; (with_reducible repeat (first | refine blk_drewN ?_ _ | refine blk_drew ?_ | refine blk_alloc ?_ _)); refine blk_far ?_ NB197_214.out _; (with_reducible repeat (first | refine blk_drewN ?_ _ | refine blk_drew ?_ | refine blk_alloc ?_ _)); refine blk_far ?_ NB197_214.out _; (with_reducible repeat (first | refine blk_drewN ?_ _ | refine blk_drew ?_ | refine blk_alloc ?_ _)); exact BK197.out) hb); have n5_ := Aside0.mk (blk_below (g := gb201) (o := .cells #[.string t198, .int .i64 t199] 23 (0, 0)) (by (with_reducible repeat (first | refine blk_drewN ?_ _ | refine blk_drew ?_ | refine blk_alloc ?_ _)); refine blk_far ?_ NB201_214.out _; (with_reducible repeat (first | refine blk_drewN ?_ _ | refine blk_drew ?_ | refine blk_alloc ?_ _)); refine blk_far ?_ NB201_214.out _; (with_reducible repeat (first | refine blk_drewN ?_ _ | refine blk_drew ?_ | refine blk_alloc ?_ _)); refine blk_far ?_ NB201_214.out _; (with_reducible repeat (first | refine blk_drewN ?_ _ | refine blk_drew ?_ | refine blk_alloc ?_ _)); refine blk_far ?_ NB201_214.out _; (with_reducible repeat (first | refine blk_drewN ?_ _ | refine blk_drew ?_ | refine blk_alloc ?_ _)); refine blk_far ?_ NB201_214.out _; (with_reducible repeat (first | refine blk_drewN ?_ _ | refine blk_drew ?_ | refine blk_alloc ?_ _)); refine blk_far ?_ NB201_214.out _; (with_reducible repeat (first | refine blk_drewN ?_ _ | refine blk_drew ?_ | refine blk_alloc ?_ _)); refine blk_far ?_ NB201_214.out _; (with_reducible repeat (first | refine blk_drewN ?_ _ | refine blk_drew ?_ | refine blk_alloc ?_ _)); exact BK201.out) hb); have n6_ := Aside0.mk (blk_below (g := gb214) (o := .cells #[.string t204, .int .i64 t205, .string t206, .int .i64 t207, .bool t208, .bool t209, .slice Ao116 t210.length co116] 26 (0, 0)) (by (with_reducible repeat (first | refine blk_drewN ?_ _ | refine blk_drew ?_ | refine blk_alloc ?_ _)); refine blk_put (cs := #[.string t204, .int .i64 t205, .string t206, .int .i64 t207, .bool t208, .bool t209, .slice none 0 0]) ?_ 6 _ rfl; (with_reducible repeat (first | refine blk_drewN ?_ _ | refine blk_drew ?_ | refine blk_alloc ?_ _)); refine blk_put (cs := #[.string t204, .int .i64 t205, .string t206, .int .i64 t207, .bool t208, .bool false, .slice none 0 0]) ?_ 5 _ rfl; (with_reducible repeat (first | refine blk_drewN ?_ _ | refine blk_drew ?_ | refine blk_alloc ?_ _)); refine blk_put (cs := #[.string t204, .int .i64 t205, .string t206, .int .i64 t207, .bool false, .bool false, .slice none 0 0]) ?_ 4 _ rfl; (with_reducible repeat (first | refine blk_drewN ?_ _ | refine blk_drew ?_ | refine blk_alloc ?_ _)); refine blk_put (cs := #[.string t204, .int .i64 t205, .string t206, .int .i64 0, .bool false, .bool false, .slice none 0 0]) ?_ 3 _ rfl; (with_reducible repeat (first | refine blk_drewN ?_ _ | refine blk_drew ?_ | refine blk_alloc ?_ _)); refine blk_put (cs := #[.string t204, .int .i64 t205, .string (⟨#[]⟩ : ByteArray), .int .i64 0, .bool false, .bool false, .slice none 0 0]) ?_ 2 _ rfl; (with_reducible repeat (first | refine blk_drewN ?_ _ | refine blk_drew ?_ | refine blk_alloc ?_ _)); refine blk_put (cs := #[.string t204, .int .i64 0, .string (⟨#[]⟩ : ByteArray), .int .i64 0, .bool false, .bool false, .slice none 0 0]) ?_ 1 _ rfl; (with_reducible repeat (first | refine blk_drewN ?_ _ | refine blk_drew ?_ | refine blk_alloc ?_ _)); refine blk_put (cs := #[.string (⟨#[]⟩ : ByteArray), .int .i64 0, .string (⟨#[]⟩ : ByteArray), .int .i64 0, .bool false, .bool false, .slice none 0 0]) ?_ 0 _ rfl; (with_reducible repeat (first | refine blk_drewN ?_ _ | refine blk_drew ?_ | refine blk_alloc ?_ _)); exact BK214.out) hb); have n7_ := Aside0.mk (below_step (by repeat (first | (with_reducible first | exact HB.out | apply below_alloc | apply pw_below_drewN | apply below_drew1 | refine below_set ?_ GE191.out | refine below_set ?_ GE197.out | refine below_set ?_ GE201.out | refine below_set ?_ GE214.out) | exact HB.out)) hb); clear HO_198000; clear HO212; clear BK191; clear BK197; clear BK201; clear BK214; clear HB; have HO_198000 := n0_; have HO212 := n1_; have HO217 := n2_; have BK191 := n3_; have BK197 := n4_; have BK201 := n5_; have BK214 := n6_; have HB := n7_; clear n0_ n1_ n2_ n3_ n4_ n5_ n6_ n7_; (try clear hb); (try clear hb2); (try clear hk); (try clear hi); (try clear ho0)) | ((with_reducible refine gate_dst (N := 9) rfl ?_); refine box_event ?hg (N := 9) ?hd (cs := #[.slice none 0 0]) (t := 31) ?hr ?_; (case hd => rfl); (case hg => rfl); (case hr => first | (go_simp; done) | (go_simp; rfl)); intro gb219 hg w120 hbox hb; have n0_ := Aside0.mk (Kd.R_below (by (with_reducible repeat (first | apply Kd.R_alloc | apply Kd.R_drewN | apply Kd.R_drew)); exact HO_198000.out) hb); have n1_ := Aside0.mk (Kd.R_below (by (with_reducible repeat (first | apply Kd.R_alloc | apply Kd.R_drewN | apply Kd.R_drew)); exact HO212.out) hb); have n2_ := Aside0.mk (Kd.R_below (by (with_reducible repeat (first | apply Kd.R_alloc | apply Kd.R_drewN | apply Kd.R_drew)); exact HO217.out) hb); have n3_ := Aside0.mk (blk_below (g := gb191) (o := .cells #[.string a0_0, .int .i64 a0_1, .string a0_2, .int .i64 a0_3, .bool false, .bool a0_5, .slice A0_6 l0_6.length c0_6] 26 (0, 0)) (by (with_reducible repeat (first | refine blk_drewN ?_ _ | refine blk_drew ?_ | refine blk_alloc ?_ _)); exact BK191.out) hb); have n4_ := Aside0.mk (blk_below (g := gb197) (o := .cells #[.slice Ao21 t194.length co21] 31 (0, 0)) (by (with_reducible repeat (first | refine blk_drewN ?_ _ | refine blk_drew ?_ | refine blk_alloc ?_ _)); exact BK197.out) hb); have n5_ := Aside0.mk (blk_below (g := gb201) (o := .cells #[.string t198, .int .i64 t199] 23 (0, 0)) (by (with_reducible repeat (first | refine blk_drewN ?_ _ | refine blk_drew ?_ | refine blk_alloc ?_ _)); exact BK201.out) hb); have n6_ := Aside0.mk (blk_below (g := gb214) (o := .cells #[.string t204, .int .i64 t205, .string t206, .int .i64 t207, .bool t208, .bool t209, .slice Ao116 t210.length co116] 26 (0, 0)) (by (with_reducible repeat (first | refine blk_drewN ?_ _ | refine blk_drew ?_ | refine blk_alloc ?_ _)); exact BK214.out) hb); have n7_ := Aside0.mk (below_step (by repeat (first | (with_reducible first | exact HB.out | apply below_alloc | apply pw_below_drewN | apply below_drew1 | refine below_set ?_ GE191.out | refine below_set ?_ GE197.out | refine below_set ?_ GE201.out | refine below_set ?_ GE214.out) | exact HB.out)) hb); have n8_ := Aside0.mk (hbox); have n9_ := Aside0.mk ((by rw [hg]; exact (below_size (by repeat (first | (with_reducible first | exact HB.out | apply below_alloc | apply pw_below_drewN | apply below_drew1 | refine below_set ?_ GE191.out | refine below_set ?_ GE197.out | refine below_set ?_ GE201.out | refine below_set ?_ GE214.out) | exact HB.out))) : w.heap.size ≤ gb219)); have n10_ := Aside0.mk ((by rw [hg]; exact (below_size (by repeat (first | (with_reducible first | exact HB.out | apply below_alloc | apply pw_below_drewN | apply below_drew1 | refine below_set ?_ GE191.out | refine below_set ?_ GE197.out | refine below_set ?_ GE201.out | refine below_set ?_ GE214.out) | exact HB.out))) : w.heap.size ≤ gb219)); have n11_ := Aside0.mk ((by rw [hg]; exact Nat.ne_of_lt (blk_lt (g := gb191) (o := .cells #[.string a0_0, .int .i64 a0_1, .string a0_2, .int .i64 a0_3, .bool false, .bool a0_5, .slice A0_6 l0_6.length c0_6] 26 (0, 0)) (by (with_reducible repeat (first | refine blk_drewN ?_ _ | refine blk_drew ?_ | refine blk_alloc ?_ _)); exact BK191.out)) : gb191 ≠ gb219)); have n12_ := Aside0.mk ((by rw [hg]; exact Nat.ne_of_gt (blk_lt (g := gb191) (o := .cells #[.string a0_0, .int .i64 a0_1, .string a0_2, .int .i64 a0_3, .bool false, .bool a0_5, .slice A0_6 l0_6.length c0_6] 26 (0, 0)) (by (with_reducible repeat (first | refine blk_drewN ?_ _ | refine blk_drew ?_ | refine blk_alloc ?_ _)); exact BK191.out)) : gb219 ≠ gb191)); have n13_ := Aside0.mk ((by rw [hg]; exact Nat.ne_of_lt (blk_lt (g := gb197) (o := .cells #[.slice Ao21 t194.length co21] 31 (0, 0)) (by (with_reducible repeat (first | refine blk_drewN ?_ _ | refine blk_drew ?_ | refine blk_alloc ?_ _)); exact BK197.out)) : gb197 ≠ gb219)); have n14_ := Aside0.mk ((by rw [hg]; exact Nat.ne_of_gt (blk_lt (g := gb197) (o := .cells #[.slice Ao21 t194.length co21] 31 (0, 0)) (by (with_reducible repeat (first | refine blk_drewN ?_ _ | refine blk_drew ?_ | refine blk_alloc ?_ _)); exact BK197.out)) : gb219 ≠ gb197)); have n15_ := Aside0.mk ((by rw [hg]; exact Nat.ne_of_lt (blk_lt (g := gb201) (o := .cells #[.string t198, .int .i64 t199] 23 (0, 0)) (by (with_reducible repeat (first | refine blk_drewN ?_ _ | refine blk_drew ?_ | refine blk_alloc ?_ _)); exact BK201.out)) : gb201 ≠ gb219)); have n16_ := Aside0.mk ((by rw [hg]; exact Nat.ne_of_gt (blk_lt (g := gb201) (o := .cells #[.string t198, .int .i64 t199] 23 (0, 0)) (by (with_reducible repeat (first | refine blk_drewN ?_ _ | refine blk_drew ?_ | refine blk_alloc ?_ _)); exact BK201.out)) : gb219 ≠ gb201)); have n17_ := Aside0.mk ((by rw [hg]; exact Nat.ne_of_lt (blk_lt (g := gb214) (o := .cells #[.string t204, .int .i64 t205, .string t206, .int .i64 t207, .bool t208, .bool t209, .slice Ao116 t210.length co116] 26 (0, 0)) (by (with_reducible repeat (first | refine blk_drewN ?_ _ | refine blk_drew ?_ | refine blk_alloc ?_ _)); exact BK214.out)) : gb214 ≠ gb219)); have n18_ := Aside0.mk ((by rw [hg]; exact Nat.ne_of_gt (blk_lt (g := gb214) (o := .cells #[.string t204, .int .i64 t205, .string t206, .int .i64 t207, .bool t208, .bool t209, .slice Ao116 t210.length co116] 26 (0, 0)) (by (with_reducible repeat (first | refine blk_drewN ?_ _ | refine blk_drew ?_ | refine blk_alloc ?_ _)); exact BK214.out)) : gb219 ≠ gb214)); clear HO_198000; clear HO212; clear HO217; clear BK191; clear BK197; clear BK201; clear BK214; clear HB; have HO_198000 := n0_; have HO212 := n1_; have HO217 := n2_; have BK191 := n3_; have BK197 := n4_; have BK201 := n5_; have BK214 := n6_; have HB := n7_; have BK219 := n8_; have GW219 := n9_; have GE219 := n10_; have NB191_219 := n11_; have NB219_191 := n12_; have NB197_219 := n13_; have NB219_197 := n14_; have NB201_219 := n15_; have NB219_201 := n16_; have NB214_219 := n17_; have NB219_214 := n18_; clear n0_ n1_ n2_ n3_ n4_ n5_ n6_ n7_ n8_ n9_ n10_ n11_ n12_ n13_ n14_ n15_ n16_ n17_ n18_; clear hb hbox hg; obtain ⟨Ao121, co121, eo121⟩ := Kd.R_slice HO217.out; subst eo121; have hnb122 := NB219_191.out; have hnc122 := NB191_219.out; have hnb123 := NB219_197.out; have hnc123 := NB197_219.out; have hnb124 := NB219_201.out; have hnc124 := NB201_219.out; have hnb125 := NB219_214.out; have hnc125 := NB214_219.out; have hcz126_0 : w120.cell? ⟨gb219, 0, none⟩ = some (.slice none 0 0) := (blk_cell BK219.out 0).trans rfl; have hfz126_0 := blk_frozen BK219.out 0; have hcz127_0 : w120.cell? ⟨gb191, 0, none⟩ = some (.string a0_0) := (blk_cell BK191.out 0).trans rfl; have hcz127_1 : w120.cell? ⟨gb191, 1, none⟩ = some (.int .i64 a0_1) := (blk_cell BK191.out 1).trans rfl; have hcz127_2 : w120.cell? ⟨gb191, 2, none⟩ = some (.string a0_2) := (blk_cell BK191.out 2).trans rfl; have hcz127_3 : w120.cell? ⟨gb191, 3, none⟩ = some (.int .i64 a0_3) := (blk_cell BK191.out 3).trans rfl; have hcz127_4 : w120.cell? ⟨gb191, 4, none⟩ = some (.bool false) := (blk_cell BK191.out 4).trans rfl; have hcz127_5 : w120.cell? ⟨gb191, 5, none⟩ = some (.bool a0_5) := (blk_cell BK191.out 5).trans rfl; have hcz127_6 : w120.cell? ⟨gb191, 6, none⟩ = some (.slice A0_6 l0_6.length c0_6) := (blk_cell BK191.out 6).trans rfl; have hfz127_0 := blk_frozen BK191.out 0; have hfz127_1 := blk_frozen BK191.out 1; have hfz127_2 := blk_frozen BK191.out 2; have hfz127_3 := blk_frozen BK191.out 3; have hfz127_4 := blk_frozen BK191.out 4; have hfz127_5 := blk_frozen BK191.out 5; have hfz127_6 := blk_frozen BK191.out 6) | ((with_reducible refine gate_callee (f := 22) rfl ?_); refine goesL_ (some 62) rfl rfl Tryd.func22 (by kernel_rfl) rfl #[.agg #[.string a0_0, .int .i64 a0_1, .string a0_2, .int .i64 a0_3, .bool false, .bool a0_5, .slice A0_6 l0_6.length c0_6]] rfl (by (try simp only [List.map_toArray, List.map_cons, List.map_nil]); first | done | rfl | (simp only [List.length_drop, List.length_take]; rfl)) ?_; (with_reducible refine (path_Back.calls a0_0 a0_1 a0_2 a0_3 false a0_5 _ _ l0_6 t220 t221 t222 t223 t224 t225 t226 _ ?side1 ?side2 A44.out).mono ?_); (case side1 => exact Kd.C_below HR0_6.out (by repeat (first | (with_reducible first | exact HB.out | apply below_alloc | apply pw_below_drewN | apply below_drew1 | refine below_set ?_ GE191.out | refine below_set ?_ GE197.out | refine below_set ?_ GE201.out | refine below_set ?_ GE214.out | refine below_set ?_ GE219.out) | exact HB.out))); (case side2 => exact HC0_6.out); rintro e w128 ⟨v227, rfl, ho0, hb⟩; refine ⟨_, rfl, ?_⟩; have n0_ := Aside0.mk (Kd.R_below (by (with_reducible repeat (first | apply Kd.R_alloc | apply Kd.R_drewN | apply Kd.R_drew)); exact (Kd.R_mono (Kd.R_far (p := ⟨gb219, 0, none⟩) (Kd.R_types HO_198000.out BK219.out (by decide)) (fun _ hk => hk.2) (.slice Ao121 t215.length co121)) (fun _ h_ => h_.1))) hb); have n1_ := Aside0.mk (Kd.R_elder' (by (with_reducible repeat (first | apply Kd.R_alloc | apply Kd.R_drewN | apply Kd.R_drew)); exact (Kd.R_mono (Kd.R_far (p := ⟨gb219, 0, none⟩) (Kd.R_types HO212.out BK219.out (by decide)) (fun _ hk => hk.2) (.slice Ao121 t215.length co121)) (fun _ h_ => h_.1))) (Kd.R_base ho0) hb); have n2_ := Aside0.mk (Kd.R_below (by (with_reducible repeat (first | apply Kd.R_alloc | apply Kd.R_drewN | apply Kd.R_drew)); exact (Kd.R_mono (Kd.R_far (p := ⟨gb219, 0, none⟩) (Kd.R_types HO217.out BK219.out (by decide)) (fun _ hk => hk.2) (.slice Ao121 t215.length co121)) (fun _ h_ => h_.1))) hb); have n3_ := Aside0.mk (Kd.R_lower (Kd.R_new' ho0 (Kd.R_lt (by (with_reducible repeat (first | apply Kd.R_alloc | apply Kd.R_drewN | apply Kd.R_drew)); exact (Kd.R_mono (Kd.R_far (p := ⟨gb219, 0, none⟩) (Kd.R_types HO212.out BK219.out (by decide)) (fun _ hk => hk.2) (.slice Ao121 t215.length co121)) (fun _ h_ => h_.1))))) (below_size (by repeat (first | (with_reducible first | exact HB.out | apply below_alloc | apply pw_below_drewN | apply below_drew1 | refine below_set ?_ GE191.out | refine below_set ?_ GE197.out | refine below_set ?_ GE201.out | refine below_set ?_ GE214.out | refine below_set ?_ GE219.out) | exact HB.out)))); have n4_ := Aside0.mk (blk_below (g := gb191) (o := .cells #[.string a0_0, .int .i64 a0_1, .string a0_2, .int .i64 a0_3, .bool false, .bool a0_5, .slice A0_6 l0_6.length c0_6] 26 (0, 0)) (by (with_reducible repeat (first | refine blk_drewN ?_ _ | refine blk_drew ?_ | refine blk_alloc ?_ _)); refine blk_far ?_ NB191_219.out _; (with_reducible repeat (first | refine blk_drewN ?_ _ | refine blk_drew ?_ | refine blk_alloc ?_ _)); exact BK191.out) hb); have n5_ := Aside0.mk (blk_below (g := gb197) (o := .cells #[.slice Ao21 t194.length co21] 31 (0, 0)) (by (with_reducible repeat (first | refine blk_drewN ?_ _ | refine blk_drew ?_ | refine blk_alloc ?_ _)); refine blk_far ?_ NB197_219.out _; (with_reducible repeat (first | refine blk_drewN ?_ _ | refine blk_drew ?_ | refine blk_alloc ?_ _)); exact BK197.out) hb); have n6_ := Aside0.mk (blk_below (g := gb201) (o := .cells #[.string t198, .int .i64 t199] 23 (0, 0)) (by (with_reducible repeat (first | refine blk_drewN ?_ _ | refine blk_drew ?_ | refine blk_alloc ?_ _)); refine blk_far ?_ NB201_219.out _; (with_reducible repeat (first | refine blk_drewN ?_ _ | refine blk_drew ?_ | refine blk_alloc ?_ _)); exact BK201.out) hb); have n7_ := Aside0.mk (blk_below (g := gb214) (o := .cells #[.string t204, .int .i64 t205, .string t206, .int .i64 t207, .bool t208, .bool t209, .slice Ao116 t210.length co116] 26 (0, 0)) (by (with_reducible repeat (first | refine blk_drewN ?_ _ | refine blk_drew ?_ | refine blk_alloc ?_ _)); refine blk_far ?_ NB214_219.out _; (with_reducible repeat (first | refine blk_drewN ?_ _ | refine blk_drew ?_ | refine blk_alloc ?_ _)); exact BK214.out) hb); have n8_ := Aside0.mk (blk_below (g := gb219) (o := .cells #[.slice Ao121 t215.length co121] 31 (0, 0)) (by (with_reducible repeat (first | refine blk_drewN ?_ _ | refine blk_drew ?_ | refine blk_alloc ?_ _)); refine blk_put (cs := #[.slice none 0 0]) ?_ 0 _ rfl; (with_reducible repeat (first | refine blk_drewN ?_ _ | refine blk_drew ?_ | refine blk_alloc ?_ _)); exact BK219.out) hb); have n9_ := Aside0.mk (below_step (by repeat (first | (with_reducible first | exact HB.out | apply below_alloc | apply pw_below_drewN | apply below_drew1 | refine below_set ?_ GE191.out | refine below_set ?_ GE197.out | refine below_set ?_ GE201.out | refine below_set ?_ GE214.out | refine below_set ?_ GE219.out) | exact HB.out)) hb); clear HO_198000; clear HO212; clear HO217; clear BK191; clear BK197; clear BK201; clear BK214; clear BK219; clear HB; have HO_198000 := n0_; have HO212 := n1_; have HO217 := n2_; have HO228 := n3_; have BK191 := n4_; have BK197 := n5_; have BK201 := n6_; have BK214 := n7_; have BK219 := n8_; have HB := n9_; clear n0_ n1_ n2_ n3_ n4_ n5_ n6_ n7_ n8_ n9_; (try clear hb); (try clear hb2); (try clear hk); (try clear hi); (try clear ho0)) | ((with_reducible refine gate_dst (N := 11) rfl ?_); refine box_event ?hg (N := 11) ?hd (cs := #[.string (⟨#[]⟩ : ByteArray), .int .i64 0, .string (⟨#[]⟩ : ByteArray), .int .i64 0, .bool false, .bool false, .slice none 0 0]) (t := 26) ?hr ?_; (case hd => rfl); (case hg => rfl); (case hr => first | (go_simp; done) | (go_simp; rfl)); intro gb229 hg w129 hbox hb; have n0_ := Aside0.mk (Kd.R_below (by (with_reducible repeat (first | apply Kd.R_alloc | apply Kd.R_drewN | apply Kd.R_drew)); exact HO_198000.out) hb); have n1_ := Aside0.mk (Kd.R_below (by (with_reducible repeat (first | apply Kd.R_alloc | apply Kd.R_drewN | apply Kd.R_drew)); exact HO212.out) hb); have n2_ := Aside0.mk (Kd.R_below (by (with_reducible repeat (first | apply Kd.R_alloc | apply Kd.R_drewN | apply Kd.R_drew)); exact HO217.out) hb); have n3_ := Aside0.mk (Kd.R_below (by (with_reducible repeat (first | apply Kd.R_alloc | apply Kd.R_drewN | apply Kd.R_drew)); exact HO228.out) hb); have n4_ := Aside0.mk (blk_below (g := gb191) (o := .cells #[.string a0_0, .int .i64 a0_1, .string a0_2, .int .i64 a0_3, .bool false, .bool a0_5, .slice A0_6 l0_6.length c0_6] 26 (0, 0)) (by (with_reducible repeat (first | refine blk_drewN ?_ _ | refine blk_drew ?_ | refine blk_alloc ?_ _)); exact BK191.out) hb); have n5_ := Aside0.mk (blk_below (g := gb197) (o := .cells #[.slice Ao21 t194.length co21] 31 (0, 0)) (by (with_reducible repeat (first | refine blk_drewN ?_ _ | refine blk_drew ?_ | refine blk_alloc ?_ _)); exact BK197.out) hb); have n6_ := Aside0.mk (blk_below (g := gb201) (o := .cells #[.string t198, .int .i64 t199] 23 (0, 0)) (by (with_reducible repeat (first | refine blk_drewN ?_ _ | refine blk_drew ?_ | refine blk_alloc ?_ _)); exact BK201.out) hb); have n7_ := Aside0.mk (blk_below (g := gb214) (o := .cells #[.string t204, .int .i64 t205, .string t206, .int .i64 t207, .bool t208, .bool t209, .slice Ao116 t210.length co116] 26 (0, 0)) (by (with_reducible repeat (first | refine blk_drewN ?_ _ | refine blk_drew ?_ | refine blk_alloc ?_ _)); exact BK214.out) hb); have n8_ := Aside0.mk (blk_below (g := gb219) (o := .cells #[.slice Ao121 t215.length co121] 31 (0, 0)) (by (with_reducible repeat (first | refine blk_drewN ?_ _ | refine blk_drew ?_ | refine blk_alloc ?_ _)); exact BK219.out) hb); have n9_ := Aside0.mk (below_step (by repeat (first | (with_reducible first | exact HB.out | apply below_alloc | apply pw_below_drewN | apply below_drew1 | refine below_set ?_ GE191.out | refine below_set ?_ GE197.out | refine below_set ?_ GE201.out | refine below_set ?_ GE214.out | refine below_set ?_ GE219.out) | exact HB.out)) hb); have n10_ := Aside0.mk (hbox); have n11_ := Aside0.mk ((by rw [hg]; exact (below_size (by repeat (first | (with_reducible first | exact HB.out | apply below_alloc | apply pw_below_drewN | apply below_drew1 | refine below_set ?_ GE191.out | refine below_set ?_ GE197.out | refine below_set ?_ GE201.out | refine below_set ?_ GE214.out | refine below_set ?_ GE219.out) | exact HB.out))) : w.heap.size ≤ gb229)); have n12_ := Aside0.mk ((by rw [hg]; exact (below_size (by repeat (first | (with_reducible first | exact HB.out | apply below_alloc | apply pw_below_drewN | apply below_drew1 | refine below_set ?_ GE191.out | refine below_set ?_ GE197.out | refine below_set ?_ GE201.out | refine below_set ?_ GE214.out | refine below_set ?_ GE219.out) | exact HB.out))) : w.heap.size ≤ gb229)); have n13_ := Aside0.mk ((by rw [hg]; exact Nat.ne_of_lt (blk_lt (g := gb191) (o := .cells #[.string a0_0, .int .i64 a0_1, .string a0_2, .int .i64 a0_3, .bool false, .bool a0_5, .slice A0_6 l0_6.length c0_6] 26 (0, 0)) (by (with_reducible repeat (first | refine blk_drewN ?_ _ | refine blk_drew ?_ | refine blk_alloc ?_ _)); exact BK191.out)) : gb191 ≠ gb229)); have n14_ := Aside0.mk ((by rw [hg]; exact Nat.ne_of_gt (blk_lt (g := gb191) (o := .cells #[.string a0_0, .int .i64 a0_1, .string a0_2, .int .i64 a0_3, .bool false, .bool a0_5, .slice A0_6 l0_6.length c0_6] 26 (0, 0)) (by (with_reducible repeat (first | refine blk_drewN ?_ _ | refine blk_drew ?_ | refine blk_alloc ?_ _)); exact BK191.out)) : gb229 ≠ gb191)); have n15_ := Aside0.mk ((by rw [hg]; exact Nat.ne_of_lt (blk_lt (g := gb197) (o := .cells #[.slice Ao21 t194.length co21] 31 (0, 0)) (by (with_reducible repeat (first | refine blk_drewN ?_ _ | refine blk_drew ?_ | refine blk_alloc ?_ _)); exact BK197.out)) : gb197 ≠ gb229)); have n16_ := Aside0.mk ((by rw [hg]; exact Nat.ne_of_gt (blk_lt (g := gb197) (o := .cells #[.slice Ao21 t194.length co21] 31 (0, 0)) (by (with_reducible repeat (first | refine blk_drewN ?_ _ | refine blk_drew ?_ | refine blk_alloc ?_ _)); exact BK197.out)) : gb229 ≠ gb197)); have n17_ := Aside0.mk ((by rw [hg]; exact Nat.ne_of_lt (blk_lt (g := gb201) (o := .cells #[.string t198, .int .i64 t199] 23 (0, 0)) (by (with_reducible repeat (first | refine blk_drewN ?_ _ | refine blk_drew ?_ | refine blk_alloc ?_ _)); exact BK201.out)) : gb201 ≠ gb229)); have n18_ := Aside0.mk ((by rw [hg]; exact Nat.ne_of_gt (blk_lt (g := gb201) (o := .cells #[.string t198, .int .i64 t199] 23 (0, 0)) (by (with_reducible repeat (first | refine blk_drewN ?_ _ | refine blk_drew ?_ | refine blk_alloc ?_ _)); exact BK201.out)) : gb229 ≠ gb201)); have n19_ := Aside0.mk ((by rw [hg]; exact Nat.ne_of_lt (blk_lt (g := gb214) (o := .cells #[.string t204, .int .i64 t205, .string t206, .int .i64 t207, .bool t208, .bool t209, .slice Ao116 t210.length co116] 26 (0, 0)) (by (with_reducible repeat (first | refine blk_drewN ?_ _ | refine blk_drew ?_ | refine blk_alloc ?_ _)); exact BK214.out)) : gb214 ≠ gb229)); have n20_ := Aside0.mk ((by rw [hg]; exact Nat.ne_of_gt (blk_lt (g := gb214) (o := .cells #[.string t204, .int .i64 t205, .string t206, .int .i64 t207, .bool t208, .bool t209, .slice Ao116 t210.length co116] 26 (0, 0)) (by (with_reducible repeat (first | refine blk_drewN ?_ _ | refine blk_drew ?_ | refine blk_alloc ?_ _)); exact BK214.out)) : gb229 ≠ gb214)); have n21_ := Aside0.mk ((by rw [hg]; exact Nat.ne_of_lt (blk_lt (g := gb219) (o := .cells #[.slice Ao121 t215.length co121] 31 (0, 0)) (by (with_reducible repeat (first | refine blk_drewN ?_ _ | refine blk_drew ?_ | refine blk_alloc ?_ _)); exact BK219.out)) : gb219 ≠ gb229)); have n22_ := Aside0.mk ((by rw [hg]; exact Nat.ne_of_gt (blk_lt (g := gb219) (o := .cells #[.slice Ao121 t215.length co121] 31 (0, 0)) (by (with_reducible repeat (first | refine blk_drewN ?_ _ | refine blk_drew ?_ | refine blk_alloc ?_ _)); exact BK219.out)) : gb229 ≠ gb219)); clear HO_198000; clear HO212; clear HO217; clear HO228; clear BK191; clear BK197; clear BK201; clear BK214; clear BK219; clear HB; have HO_198000 := n0_; have HO212 := n1_; have HO217 := n2_; have HO228 := n3_; have BK191 := n4_; have BK197 := n5_; have BK201 := n6_; have BK214 := n7_; have BK219 := n8_; have HB := n9_; have BK229 := n10_; have GW229 := n11_; have GE229 := n12_; have NB191_229 := n13_; have NB229_191 := n14_; have NB197_229 := n15_; have NB229_197 := n16_; have NB201_229 := n17_; have NB229_201 := n18_; have NB214_229 := n19_; have NB229_214 := n20_; have NB219_229 := n21_; have NB229_219 := n22_; clear n0_ n1_ n2_ n3_ n4_ n5_ n6_ n7_ n8_ n9_ n10_ n11_ n12_ n13_ n14_ n15_ n16_ n17_ n18_ n19_ n20_ n21_ n22_; clear hb hbox hg; have hnb130 := NB229_191.out; have hnc130 := NB191_229.out; have hnb131 := NB229_197.out; have hnc131 := NB197_229.out; have hnb132 := NB229_201.out; have hnc132 := NB201_229.out; have hnb133 := NB229_214.out; have hnc133 := NB214_229.out; have hnb134 := NB229_219.out; have hnc134 := NB219_229.out; have hcz135_0 : w129.cell? ⟨gb229, 0, none⟩ = some (.string (⟨#[]⟩ : ByteArray)) := (blk_cell BK229.out 0).trans rfl; have hcz135_1 : w129.cell? ⟨gb229, 1, none⟩ = some (.int .i64 0) := (blk_cell BK229.out 1).trans rfl; have hcz135_2 : w129.cell? ⟨gb229, 2, none⟩ = some (.string (⟨#[]⟩ : ByteArray)) := (blk_cell BK229.out 2).trans rfl; have hcz135_3 : w129.cell? ⟨gb229, 3, none⟩ = some (.int .i64 0) := (blk_cell BK229.out 3).trans rfl; have hcz135_4 : w129.cell? ⟨gb229, 4, none⟩ = some (.bool false) := (blk_cell BK229.out 4).trans rfl; have hcz135_5 : w129.cell? ⟨gb229, 5, none⟩ = some (.bool false) := (blk_cell BK229.out 5).trans rfl; have hcz135_6 : w129.cell? ⟨gb229, 6, none⟩ = some (.slice none 0 0) := (blk_cell BK229.out 6).trans rfl; have hfz135_0 := blk_frozen BK229.out 0; have hfz135_1 := blk_frozen BK229.out 1; have hfz135_2 := blk_frozen BK229.out 2; have hfz135_3 := blk_frozen BK229.out 3; have hfz135_4 := blk_frozen BK229.out 4; have hfz135_5 := blk_frozen BK229.out 5; have hfz135_6 := blk_frozen BK229.out 6; obtain ⟨Ao136, co136, eo136⟩ := Kd.R_slice HO228.out; subst eo136))
            have n0_ : Aside0 (Kd.R k37 37 (((((((w129.setCell ⟨gb229, 0, none⟩ (.string t220)).setCell ⟨gb229, 1, none⟩ (.int .i64 t221)).setCell ⟨gb229, 2, none⟩ (.string t222)).setCell ⟨gb229, 3, none⟩ (.int .i64 t223)).setCell ⟨gb229, 4, none⟩ (.bool t224)).setCell ⟨gb229, 5, none⟩ (.bool t225)).setCell ⟨gb229, 6, none⟩ (.slice Ao136 t226.length co136)) w.heap.size (fun k_ => some k_ ≠ (.slice Ao121 t215.length co121 : Value).ownBlock) (.slice Ao21 t194.length co21) t194) := ⟨by (with_reducible repeat (first | apply Kd.R_alloc | apply Kd.R_drewN | apply Kd.R_drew)); exact Kd.R_mono (Kd.R_far (p := ⟨gb229, 6, none⟩) (Kd.R_far (p := ⟨gb229, 5, none⟩) (Kd.R_far (p := ⟨gb229, 4, none⟩) (Kd.R_far (p := ⟨gb229, 3, none⟩) (Kd.R_far (p := ⟨gb229, 2, none⟩) (Kd.R_far (p := ⟨gb229, 1, none⟩) (Kd.R_far (p := ⟨gb229, 0, none⟩) (Kd.R_types HO_198000.out BK229.out (by decide)) (fun _ hk => hk.2) (.string t220)) (fun _ hk => hk.2) (.int .i64 t221)) (fun _ hk => hk.2) (.string t222)) (fun _ hk => hk.2) (.int .i64 t223)) (fun _ hk => hk.2) (.bool t224)) (fun _ hk => hk.2) (.bool t225)) (fun _ hk => hk.2) (.slice Ao136 t226.length co136)) (fun _ hk => hk.1.2)⟩
            have n1_ : Aside0 (Kd.R k93 93 (((((((w129.setCell ⟨gb229, 0, none⟩ (.string t220)).setCell ⟨gb229, 1, none⟩ (.int .i64 t221)).setCell ⟨gb229, 2, none⟩ (.string t222)).setCell ⟨gb229, 3, none⟩ (.int .i64 t223)).setCell ⟨gb229, 4, none⟩ (.bool t224)).setCell ⟨gb229, 5, none⟩ (.bool t225)).setCell ⟨gb229, 6, none⟩ (.slice Ao136 t226.length co136)) w.heap.size (fun k_ => some k_ ≠ (.slice Ao136 t226.length co136 : Value).ownBlock) (.slice Ao116 t210.length co116) t210) := ⟨by (with_reducible repeat (first | apply Kd.R_alloc | apply Kd.R_drewN | apply Kd.R_drew)); exact Kd.R_mono (Kd.R_far (p := ⟨gb229, 6, none⟩) (Kd.R_far (p := ⟨gb229, 5, none⟩) (Kd.R_far (p := ⟨gb229, 4, none⟩) (Kd.R_far (p := ⟨gb229, 3, none⟩) (Kd.R_far (p := ⟨gb229, 2, none⟩) (Kd.R_far (p := ⟨gb229, 1, none⟩) (Kd.R_far (p := ⟨gb229, 0, none⟩) (Kd.R_types HO212.out BK229.out (by decide)) (fun _ hk => hk.2) (.string t220)) (fun _ hk => hk.2) (.int .i64 t221)) (fun _ hk => hk.2) (.string t222)) (fun _ hk => hk.2) (.int .i64 t223)) (fun _ hk => hk.2) (.bool t224)) (fun _ hk => hk.2) (.bool t225)) (fun _ hk => hk.2) (.slice Ao136 t226.length co136)) (fun _ hk => hk.1.2)⟩
            have n2_ : Aside0 (Kd.R k37 37 (((((((w129.setCell ⟨gb229, 0, none⟩ (.string t220)).setCell ⟨gb229, 1, none⟩ (.int .i64 t221)).setCell ⟨gb229, 2, none⟩ (.string t222)).setCell ⟨gb229, 3, none⟩ (.int .i64 t223)).setCell ⟨gb229, 4, none⟩ (.bool t224)).setCell ⟨gb229, 5, none⟩ (.bool t225)).setCell ⟨gb229, 6, none⟩ (.slice Ao136 t226.length co136)) w.heap.size (fun k_ => some k_ ≠ (.slice Ao21 t194.length co21 : Value).ownBlock) (.slice Ao121 t215.length co121) t215) := ⟨by (with_reducible repeat (first | apply Kd.R_alloc | apply Kd.R_drewN | apply Kd.R_drew)); exact Kd.R_mono (Kd.R_far (p := ⟨gb229, 6, none⟩) (Kd.R_far (p := ⟨gb229, 5, none⟩) (Kd.R_far (p := ⟨gb229, 4, none⟩) (Kd.R_far (p := ⟨gb229, 3, none⟩) (Kd.R_far (p := ⟨gb229, 2, none⟩) (Kd.R_far (p := ⟨gb229, 1, none⟩) (Kd.R_far (p := ⟨gb229, 0, none⟩) (Kd.R_types HO217.out BK229.out (by decide)) (fun _ hk => hk.2) (.string t220)) (fun _ hk => hk.2) (.int .i64 t221)) (fun _ hk => hk.2) (.string t222)) (fun _ hk => hk.2) (.int .i64 t223)) (fun _ hk => hk.2) (.bool t224)) (fun _ hk => hk.2) (.bool t225)) (fun _ hk => hk.2) (.slice Ao136 t226.length co136)) (fun _ hk => hk.1.2)⟩
            have n3_ : Aside0 (Kd.R k93 93 (((((((w129.setCell ⟨gb229, 0, none⟩ (.string t220)).setCell ⟨gb229, 1, none⟩ (.int .i64 t221)).setCell ⟨gb229, 2, none⟩ (.string t222)).setCell ⟨gb229, 3, none⟩ (.int .i64 t223)).setCell ⟨gb229, 4, none⟩ (.bool t224)).setCell ⟨gb229, 5, none⟩ (.bool t225)).setCell ⟨gb229, 6, none⟩ (.slice Ao136 t226.length co136)) w.heap.size (fun k_ => some k_ ≠ (.slice Ao116 t210.length co116 : Value).ownBlock) (.slice Ao136 t226.length co136) t226) := ⟨by (with_reducible repeat (first | apply Kd.R_alloc | apply Kd.R_drewN | apply Kd.R_drew)); exact Kd.R_mono (Kd.R_far (p := ⟨gb229, 6, none⟩) (Kd.R_far (p := ⟨gb229, 5, none⟩) (Kd.R_far (p := ⟨gb229, 4, none⟩) (Kd.R_far (p := ⟨gb229, 3, none⟩) (Kd.R_far (p := ⟨gb229, 2, none⟩) (Kd.R_far (p := ⟨gb229, 1, none⟩) (Kd.R_far (p := ⟨gb229, 0, none⟩) (Kd.R_types HO228.out BK229.out (by decide)) (fun _ hk => hk.2) (.string t220)) (fun _ hk => hk.2) (.int .i64 t221)) (fun _ hk => hk.2) (.string t222)) (fun _ hk => hk.2) (.int .i64 t223)) (fun _ hk => hk.2) (.bool t224)) (fun _ hk => hk.2) (.bool t225)) (fun _ hk => hk.2) (.slice Ao136 t226.length co136)) (fun _ hk => hk.1.2)⟩
            have n4_ : Aside0 ((((((((w129.setCell ⟨gb229, 0, none⟩ (.string t220)).setCell ⟨gb229, 1, none⟩ (.int .i64 t221)).setCell ⟨gb229, 2, none⟩ (.string t222)).setCell ⟨gb229, 3, none⟩ (.int .i64 t223)).setCell ⟨gb229, 4, none⟩ (.bool t224)).setCell ⟨gb229, 5, none⟩ (.bool t225)).setCell ⟨gb229, 6, none⟩ (.slice Ao136 t226.length co136)).heap[gb191]? = some (.cells #[.string a0_0, .int .i64 a0_1, .string a0_2, .int .i64 a0_3, .bool false, .bool a0_5, .slice A0_6 l0_6.length c0_6] 26 (0, 0))) := ⟨by (with_reducible repeat (first | refine blk_drewN ?_ _ | refine blk_drew ?_ | refine blk_alloc ?_ _)); refine blk_far ?_ NB191_229.out _; (with_reducible repeat (first | refine blk_drewN ?_ _ | refine blk_drew ?_ | refine blk_alloc ?_ _)); refine blk_far ?_ NB191_229.out _; (with_reducible repeat (first | refine blk_drewN ?_ _ | refine blk_drew ?_ | refine blk_alloc ?_ _)); refine blk_far ?_ NB191_229.out _; (with_reducible repeat (first | refine blk_drewN ?_ _ | refine blk_drew ?_ | refine blk_alloc ?_ _)); refine blk_far ?_ NB191_229.out _; (with_reducible repeat (first | refine blk_drewN ?_ _ | refine blk_drew ?_ | refine blk_alloc ?_ _)); refine blk_far ?_ NB191_229.out _; (with_reducible repeat (first | refine blk_drewN ?_ _ | refine blk_drew ?_ | refine blk_alloc ?_ _)); refine blk_far ?_ NB191_229.out _; (with_reducible repeat (first | refine blk_drewN ?_ _ | refine blk_drew ?_ | refine blk_alloc ?_ _)); refine blk_far ?_ NB191_229.out _; (with_reducible repeat (first | refine blk_drewN ?_ _ | refine blk_drew ?_ | refine blk_alloc ?_ _)); exact BK191.out⟩
            have n5_ : Aside0 ((((((((w129.setCell ⟨gb229, 0, none⟩ (.string t220)).setCell ⟨gb229, 1, none⟩ (.int .i64 t221)).setCell ⟨gb229, 2, none⟩ (.string t222)).setCell ⟨gb229, 3, none⟩ (.int .i64 t223)).setCell ⟨gb229, 4, none⟩ (.bool t224)).setCell ⟨gb229, 5, none⟩ (.bool t225)).setCell ⟨gb229, 6, none⟩ (.slice Ao136 t226.length co136)).heap[gb197]? = some (.cells #[.slice Ao21 t194.length co21] 31 (0, 0))) := ⟨by (with_reducible repeat (first | refine blk_drewN ?_ _ | refine blk_drew ?_ | refine blk_alloc ?_ _)); refine blk_far ?_ NB197_229.out _; (with_reducible repeat (first | refine blk_drewN ?_ _ | refine blk_drew ?_ | refine blk_alloc ?_ _)); refine blk_far ?_ NB197_229.out _; (with_reducible repeat (first | refine blk_drewN ?_ _ | refine blk_drew ?_ | refine blk_alloc ?_ _)); refine blk_far ?_ NB197_229.out _; (with_reducible repeat (first | refine blk_drewN ?_ _ | refine blk_drew ?_ | refine blk_alloc ?_ _)); refine blk_far ?_ NB197_229.out _; (with_reducible repeat (first | refine blk_drewN ?_ _ | refine blk_drew ?_ | refine blk_alloc ?_ _)); refine blk_far ?_ NB197_229.out _; (with_reducible repeat (first | refine blk_drewN ?_ _ | refine blk_drew ?_ | refine blk_alloc ?_ _)); refine blk_far ?_ NB197_229.out _; (with_reducible repeat (first | refine blk_drewN ?_ _ | refine blk_drew ?_ | refine blk_alloc ?_ _)); refine blk_far ?_ NB197_229.out _; (with_reducible repeat (first | refine blk_drewN ?_ _ | refine blk_drew ?_ | refine blk_alloc ?_ _)); exact BK197.out⟩
            have n6_ : Aside0 ((((((((w129.setCell ⟨gb229, 0, none⟩ (.string t220)).setCell ⟨gb229, 1, none⟩ (.int .i64 t221)).setCell ⟨gb229, 2, none⟩ (.string t222)).setCell ⟨gb229, 3, none⟩ (.int .i64 t223)).setCell ⟨gb229, 4, none⟩ (.bool t224)).setCell ⟨gb229, 5, none⟩ (.bool t225)).setCell ⟨gb229, 6, none⟩ (.slice Ao136 t226.length co136)).heap[gb201]? = some (.cells #[.string t198, .int .i64 t199] 23 (0, 0))) := ⟨by (with_reducible repeat (first | refine blk_drewN ?_ _ | refine blk_drew ?_ | refine blk_alloc ?_ _)); refine blk_far ?_ NB201_229.out _; (with_reducible repeat (first | refine blk_drewN ?_ _ | refine blk_drew ?_ | refine blk_alloc ?_ _)); refine blk_far ?_ NB201_229.out _; (with_reducible repeat (first | refine blk_drewN ?_ _ | refine blk_drew ?_ | refine blk_alloc ?_ _)); refine blk_far ?_ NB201_229.out _; (with_reducible repeat (first | refine blk_drewN ?_ _ | refine blk_drew ?_ | refine blk_alloc ?_ _)); refine blk_far ?_ NB201_229.out _; (with_reducible repeat (first | refine blk_drewN ?_ _ | refine blk_drew ?_ | refine blk_alloc ?_ _)); refine blk_far ?_ NB201_229.out _; (with_reducible repeat (first | refine blk_drewN ?_ _ | refine blk_drew ?_ | refine blk_alloc ?_ _)); refine blk_far ?_ NB201_229.out _; (with_reducible repeat (first | refine blk_drewN ?_ _ | refine blk_drew ?_ | refine blk_alloc ?_ _)); refine blk_far ?_ NB201_229.out _; (with_reducible repeat (first | refine blk_drewN ?_ _ | refine blk_drew ?_ | refine blk_alloc ?_ _)); exact BK201.out⟩
            have n7_ : Aside0 ((((((((w129.setCell ⟨gb229, 0, none⟩ (.string t220)).setCell ⟨gb229, 1, none⟩ (.int .i64 t221)).setCell ⟨gb229, 2, none⟩ (.string t222)).setCell ⟨gb229, 3, none⟩ (.int .i64 t223)).setCell ⟨gb229, 4, none⟩ (.bool t224)).setCell ⟨gb229, 5, none⟩ (.bool t225)).setCell ⟨gb229, 6, none⟩ (.slice Ao136 t226.length co136)).heap[gb214]? = some (.cells #[.string t204, .int .i64 t205, .string t206, .int .i64 t207, .bool t208, .bool t209, .slice Ao116 t210.length co116] 26 (0, 0))) := ⟨by (with_reducible repeat (first | refine blk_drewN ?_ _ | refine blk_drew ?_ | refine blk_alloc ?_ _)); refine blk_far ?_ NB214_229.out _; (with_reducible repeat (first | refine blk_drewN ?_ _ | refine blk_drew ?_ | refine blk_alloc ?_ _)); refine blk_far ?_ NB214_229.out _; (with_reducible repeat (first | refine blk_drewN ?_ _ | refine blk_drew ?_ | refine blk_alloc ?_ _)); refine blk_far ?_ NB214_229.out _; (with_reducible repeat (first | refine blk_drewN ?_ _ | refine blk_drew ?_ | refine blk_alloc ?_ _)); refine blk_far ?_ NB214_229.out _; (with_reducible repeat (first | refine blk_drewN ?_ _ | refine blk_drew ?_ | refine blk_alloc ?_ _)); refine blk_far ?_ NB214_229.out _; (with_reducible repeat (first | refine blk_drewN ?_ _ | refine blk_drew ?_ | refine blk_alloc ?_ _)); refine blk_far ?_ NB214_229.out _; (with_reducible repeat (first | refine blk_drewN ?_ _ | refine blk_drew ?_ | refine blk_alloc ?_ _)); refine blk_far ?_ NB214_229.out _; (with_reducible repeat (first | refine blk_drewN ?_ _ | refine blk_drew ?_ | refine blk_alloc ?_ _)); exact BK214.out⟩
            have n8_ : Aside0 ((((((((w129.setCell ⟨gb229, 0, none⟩ (.string t220)).setCell ⟨gb229, 1, none⟩ (.int .i64 t221)).setCell ⟨gb229, 2, none⟩ (.string t222)).setCell ⟨gb229, 3, none⟩ (.int .i64 t223)).setCell ⟨gb229, 4, none⟩ (.bool t224)).setCell ⟨gb229, 5, none⟩ (.bool t225)).setCell ⟨gb229, 6, none⟩ (.slice Ao136 t226.length co136)).heap[gb219]? = some (.cells #[.slice Ao121 t215.length co121] 31 (0, 0))) := ⟨by (with_reducible repeat (first | refine blk_drewN ?_ _ | refine blk_drew ?_ | refine blk_alloc ?_ _)); refine blk_far ?_ NB219_229.out _; (with_reducible repeat (first | refine blk_drewN ?_ _ | refine blk_drew ?_ | refine blk_alloc ?_ _)); refine blk_far ?_ NB219_229.out _; (with_reducible repeat (first | refine blk_drewN ?_ _ | refine blk_drew ?_ | refine blk_alloc ?_ _)); refine blk_far ?_ NB219_229.out _; (with_reducible repeat (first | refine blk_drewN ?_ _ | refine blk_drew ?_ | refine blk_alloc ?_ _)); refine blk_far ?_ NB219_229.out _; (with_reducible repeat (first | refine blk_drewN ?_ _ | refine blk_drew ?_ | refine blk_alloc ?_ _)); refine blk_far ?_ NB219_229.out _; (with_reducible repeat (first | refine blk_drewN ?_ _ | refine blk_drew ?_ | refine blk_alloc ?_ _)); refine blk_far ?_ NB219_229.out _; (with_reducible repeat (first | refine blk_drewN ?_ _ | refine blk_drew ?_ | refine blk_alloc ?_ _)); refine blk_far ?_ NB219_229.out _; (with_reducible repeat (first | refine blk_drewN ?_ _ | refine blk_drew ?_ | refine blk_alloc ?_ _)); exact BK219.out⟩
            have n9_ : Aside0 ((((((((w129.setCell ⟨gb229, 0, none⟩ (.string t220)).setCell ⟨gb229, 1, none⟩ (.int .i64 t221)).setCell ⟨gb229, 2, none⟩ (.string t222)).setCell ⟨gb229, 3, none⟩ (.int .i64 t223)).setCell ⟨gb229, 4, none⟩ (.bool t224)).setCell ⟨gb229, 5, none⟩ (.bool t225)).setCell ⟨gb229, 6, none⟩ (.slice Ao136 t226.length co136)).heap[gb229]? = some (.cells #[.string t220, .int .i64 t221, .string t222, .int .i64 t223, .bool t224, .bool t225, .slice Ao136 t226.length co136] 26 (0, 0))) := ⟨by (with_reducible repeat (first | refine blk_drewN ?_ _ | refine blk_drew ?_ | refine blk_alloc ?_ _)); refine blk_put (cs := #[.string t220, .int .i64 t221, .string t222, .int .i64 t223, .bool t224, .bool t225, .slice none 0 0]) ?_ 6 _ rfl; (with_reducible repeat (first | refine blk_drewN ?_ _ | refine blk_drew ?_ | refine blk_alloc ?_ _)); refine blk_put (cs := #[.string t220, .int .i64 t221, .string t222, .int .i64 t223, .bool t224, .bool false, .slice none 0 0]) ?_ 5 _ rfl; (with_reducible repeat (first | refine blk_drewN ?_ _ | refine blk_drew ?_ | refine blk_alloc ?_ _)); refine blk_put (cs := #[.string t220, .int .i64 t221, .string t222, .int .i64 t223, .bool false, .bool false, .slice none 0 0]) ?_ 4 _ rfl; (with_reducible repeat (first | refine blk_drewN ?_ _ | refine blk_drew ?_ | refine blk_alloc ?_ _)); refine blk_put (cs := #[.string t220, .int .i64 t221, .string t222, .int .i64 0, .bool false, .bool false, .slice none 0 0]) ?_ 3 _ rfl; (with_reducible repeat (first | refine blk_drewN ?_ _ | refine blk_drew ?_ | refine blk_alloc ?_ _)); refine blk_put (cs := #[.string t220, .int .i64 t221, .string (⟨#[]⟩ : ByteArray), .int .i64 0, .bool false, .bool false, .slice none 0 0]) ?_ 2 _ rfl; (with_reducible repeat (first | refine blk_drewN ?_ _ | refine blk_drew ?_ | refine blk_alloc ?_ _)); refine blk_put (cs := #[.string t220, .int .i64 0, .string (⟨#[]⟩ : ByteArray), .int .i64 0, .bool false, .bool false, .slice none 0 0]) ?_ 1 _ rfl; (with_reducible repeat (first | refine blk_drewN ?_ _ | refine blk_drew ?_ | refine blk_alloc ?_ _)); refine blk_put (cs := #[.string (⟨#[]⟩ : ByteArray), .int .i64 0, .string (⟨#[]⟩ : ByteArray), .int .i64 0, .bool false, .bool false, .slice none 0 0]) ?_ 0 _ rfl; (with_reducible repeat (first | refine blk_drewN ?_ _ | refine blk_drew ?_ | refine blk_alloc ?_ _)); exact BK229.out⟩
            have n10_ : Aside0 (Below w.heap.size w (((((((w129.setCell ⟨gb229, 0, none⟩ (.string t220)).setCell ⟨gb229, 1, none⟩ (.int .i64 t221)).setCell ⟨gb229, 2, none⟩ (.string t222)).setCell ⟨gb229, 3, none⟩ (.int .i64 t223)).setCell ⟨gb229, 4, none⟩ (.bool t224)).setCell ⟨gb229, 5, none⟩ (.bool t225)).setCell ⟨gb229, 6, none⟩ (.slice Ao136 t226.length co136))) := ⟨by repeat (first | (with_reducible first | exact HB.out | apply below_alloc | apply pw_below_drewN | apply below_drew1 | refine below_set ?_ GE191.out | refine below_set ?_ GE197.out | refine below_set ?_ GE201.out | refine below_set ?_ GE214.out | refine below_set ?_ GE219.out | refine below_set ?_ GE229.out) | exact HB.out)⟩
            (try clear HO_198000)
            (try clear HO212)
            (try clear HO217)
            (try clear HO228)
            (try clear BK191)
            (try clear BK197)
            (try clear BK201)
            (try clear BK214)
            (try clear BK219)
            (try clear BK229)
            (try clear HB)
            generalize (((((((w129.setCell ⟨gb229, 0, none⟩ (.string t220)).setCell ⟨gb229, 1, none⟩ (.int .i64 t221)).setCell ⟨gb229, 2, none⟩ (.string t222)).setCell ⟨gb229, 3, none⟩ (.int .i64 t223)).setCell ⟨gb229, 4, none⟩ (.bool t224)).setCell ⟨gb229, 5, none⟩ (.bool t225)).setCell ⟨gb229, 6, none⟩ (.slice Ao136 t226.length co136)) = w137 at n0_ n1_ n2_ n3_ n4_ n5_ n6_ n7_ n8_ n9_ n10_ ⊢
            have HO_198000 := n0_
            have HO212 := n1_
            have HO217 := n2_
            have HO228 := n3_
            have BK191 := n4_
            have BK197 := n5_
            have BK201 := n6_
            have BK214 := n7_
            have BK219 := n8_
            have BK229 := n9_
            have HB := n10_
            clear n0_ n1_ n2_ n3_ n4_ n5_ n6_ n7_ n8_ n9_ n10_
            have n0_ := Aside0.mk (Kd.R_drew HO_198000.out)
            have n1_ := Aside0.mk (Kd.R_drew HO212.out)
            have n2_ := Aside0.mk (Kd.R_drew HO217.out)
            have n3_ := Aside0.mk (Kd.R_drew HO228.out)
            have n4_ := Aside0.mk (blk_drew BK191.out)
            have n5_ := Aside0.mk (blk_drew BK197.out)
            have n6_ := Aside0.mk (blk_drew BK201.out)
            have n7_ := Aside0.mk (blk_drew BK214.out)
            have n8_ := Aside0.mk (blk_drew BK219.out)
            have n9_ := Aside0.mk (blk_drew BK229.out)
            have n10_ := Aside0.mk (below_drew1 HB.out)
            clear HO_198000
            clear HO212
            clear HO217
            clear HO228
            clear BK191
            clear BK197
            clear BK201
            clear BK214
            clear BK219
            clear BK229
            clear HB
            have HO_198000 := n0_
            have HO212 := n1_
            have HO217 := n2_
            have HO228 := n3_
            have BK191 := n4_
            have BK197 := n5_
            have BK201 := n6_
            have BK214 := n7_
            have BK219 := n8_
            have BK229 := n9_
            have HB := n10_
            clear n0_ n1_ n2_ n3_ n4_ n5_ n6_ n7_ n8_ n9_ n10_
            refine start_ (n := 47) (S := fun w' => w'.cell? ⟨gb214, 0, none⟩ = some (.string t204) ∧ w'.cell? ⟨gb214, 1, none⟩ = some (.int .i64 t205) ∧ w'.cell? ⟨gb214, 2, none⟩ = some (.string t206) ∧ w'.cell? ⟨gb214, 3, none⟩ = some (.int .i64 t207) ∧ w'.cell? ⟨gb214, 4, none⟩ = some (.bool t208) ∧ w'.cell? ⟨gb214, 5, none⟩ = some (.bool t209) ∧ w'.cell? ⟨gb214, 6, none⟩ = some (.slice Ao116 t210.length co116) ∧ w'.cell? ⟨gb219, 0, none⟩ = some (.slice Ao121 t215.length co121) ∧ w'.cell? ⟨gb229, 0, none⟩ = some (.string t220) ∧ w'.cell? ⟨gb229, 1, none⟩ = some (.int .i64 t221) ∧ w'.cell? ⟨gb229, 2, none⟩ = some (.string t222) ∧ w'.cell? ⟨gb229, 3, none⟩ = some (.int .i64 t223) ∧ w'.cell? ⟨gb229, 4, none⟩ = some (.bool t224) ∧ w'.cell? ⟨gb229, 5, none⟩ = some (.bool t225) ∧ w'.cell? ⟨gb229, 6, none⟩ = some (.slice Ao136 t226.length co136) ∧ w'.cell? ⟨gb197, 0, none⟩ = some (.slice Ao21 t194.length co21) ∧ w'.cell? ⟨gb191, 0, none⟩ = some (.string a0_0) ∧ w'.cell? ⟨gb191, 1, none⟩ = some (.int .i64 a0_1) ∧ w'.cell? ⟨gb191, 2, none⟩ = some (.string a0_2) ∧ w'.cell? ⟨gb191, 3, none⟩ = some (.int .i64 a0_3) ∧ w'.cell? ⟨gb191, 4, none⟩ = some (.bool false) ∧ w'.cell? ⟨gb191, 5, none⟩ = some (.bool a0_5) ∧ w'.cell? ⟨gb191, 6, none⟩ = some (.slice A0_6 l0_6.length c0_6)) (ds := []) #[false, false, false, false, false, false, false, false, false, false, false, false, false, false, false, false, false, false, false, false, false, false, false, false, false, false, false, false, false, false, false, false, false, false, false, false, false, false, false, false, false, false, false, false, false, false, false] (by kernel_rfl) rfl rfl ⟨(blk_cell BK214.out 0).trans rfl, (blk_cell BK214.out 1).trans rfl, (blk_cell BK214.out 2).trans rfl, (blk_cell BK214.out 3).trans rfl, (blk_cell BK214.out 4).trans rfl, (blk_cell BK214.out 5).trans rfl, (blk_cell BK214.out 6).trans rfl, (blk_cell BK219.out 0).trans rfl, (blk_cell BK229.out 0).trans rfl, (blk_cell BK229.out 1).trans rfl, (blk_cell BK229.out 2).trans rfl, (blk_cell BK229.out 3).trans rfl, (blk_cell BK229.out 4).trans rfl, (blk_cell BK229.out 5).trans rfl, (blk_cell BK229.out 6).trans rfl, (blk_cell BK197.out 0).trans rfl, (blk_cell BK191.out 0).trans rfl, (blk_cell BK191.out 1).trans rfl, (blk_cell BK191.out 2).trans rfl, (blk_cell BK191.out 3).trans rfl, (blk_cell BK191.out 4).trans rfl, (blk_cell BK191.out 5).trans rfl, (blk_cell BK191.out 6).trans rfl⟩ (fun hHeld => ?_); refine with_tabW squelchlaw05_PathGoes.tab13 squelchlaw05_PathGoes.bits13 (fun HT_ HW_ => ?_)
            generalize w137.drew = w138 at HO_198000 HO212 HO217 HO228 BK191 BK197 BK201 BK214 BK219 BK229 HB hHeld ⊢
            refine pure_ (i := 0) (N := some 63) (v := ?_) (a' := ?_) #[true, false, false, false, false, false, false, false, false, false, false, false, false, false, false, false, false, false, false, false, false, false, false, false, false, false, false, false, false, false, false, false, false, false, false, false, false, false, false, false, false, false, false, false, false, false, false] rfl rfl (any_of HT_.out (by kernel_rfl)) (fun _ _ _ h => h) (Or.inl ⟨by rfl, ?_⟩) ?_ ?_
            rotate_left
            ·intro w'
             go_simp
             with_reducible rfl
            rotate_left
            ·simp only [Act.put, List.setIfInBounds_toArray, List.set_cons_zero, List.set_cons_succ, i64_w, i32_w]
             rfl
            refine pure_ (i := 1) (N := some 64) (v := ?_) (a' := ?_) #[true, true, false, false, false, false, false, false, false, false, false, false, false, false, false, false, false, false, false, false, false, false, false, false, false, false, false, false, false, false, false, false, false, false, false, false, false, false, false, false, false, false, false, false, false, false, false] rfl rfl (any_of HT_.out (by kernel_rfl)) (fun _ _ _ h => h) (Or.inl ⟨by rfl, ?_⟩) ?_ ?_
            rotate_left
            ·intro w'
             go_simp
             with_reducible rfl
            rotate_left
            ·simp only [Act.put, List.setIfInBounds_toArray, List.set_cons_zero, List.set_cons_succ, i64_w, i32_w]
             rfl
            refine pure_ (i := 2) (N := some 65) (v := ?_) (a' := ?_) #[true, true, true, false, false, false, false, false, false, false, false, false, false, false, false, false, false, false, false, false, false, false, false, false, false, false, false, false, false, false, false, false, false, false, false, false, false, false, false, false, false, false, false, false, false, false, false] rfl rfl (any_of HT_.out (by kernel_rfl)) (fun _ _ _ h => h) (Or.inl ⟨by rfl, ?_⟩) ?_ ?_
            rotate_left
            ·intro w'
             go_simp
             with_reducible rfl
            rotate_left
            ·simp only [Act.put, List.setIfInBounds_toArray, List.set_cons_zero, List.set_cons_succ, i64_w, i32_w]
             rfl
            refine pure_ (i := 3) (N := some 66) (v := ?_) (a' := ?_) #[true, true, true, true, false, false, false, false, false, false, false, false, false, false, false, false, false, false, false, false, false, false, false, false, false, false, false, false, false, false, false, false, false, false, false, false, false, false, false, false, false, false, false, false, false, false, false] rfl rfl (any_of HT_.out (by kernel_rfl)) (fun _ _ _ h => h) (Or.inl ⟨by rfl, ?_⟩) ?_ ?_
            rotate_left
            ·intro w'
             go_simp
             with_reducible rfl
            rotate_left
            ·simp only [Act.put, List.setIfInBounds_toArray, List.set_cons_zero, List.set_cons_succ, i64_w, i32_w]
             rfl
            refine take_ (i := 4) (N := some 67) (v := ?_) (a' := ?_) #[true, true, true, true, true, false, false, false, false, false, false, false, false, false, false, false, false, false, false, false, false, false, false, false, false, false, false, false, false, false, false, false, false, false, false, false, false, false, false, false, false, false, false, false, false, false, false] rfl rfl (take_ofW HT_.out HW_.out (by kernel_rfl)) (fun _ _ _ h => h) (Or.inl ⟨by rfl, ?_⟩) hHeld ?_ ?_
            rotate_left
            ·rintro w' ⟨s0, s1, s2, s3, s4, s5, s6, s7, s8, s9, s10, s11, s12, s13, s14, s15, s16, s17, s18, s19, s20, s21, s22⟩
             go_simp
             with_reducible rfl
            rotate_left
            ·simp only [Act.put, List.setIfInBounds_toArray, List.set_cons_zero, List.set_cons_succ, i64_w, i32_w]
             rfl
            refine take_ (i := 6) (N := some 69) (v := ?_) (a' := ?_) #[true, true, true, true, true, false, true, false, false, false, false, false, false, false, false, false, false, false, false, false, false, false, false, false, false, false, false, false, false, false, false, false, false, false, false, false, false, false, false, false, false, false, false, false, false, false, false] rfl rfl (take_ofW HT_.out HW_.out (by kernel_rfl)) (fun _ _ _ h => h) (Or.inl ⟨by rfl, ?_⟩) hHeld ?_ ?_
            rotate_left
            ·rintro w' ⟨s0, s1, s2, s3, s4, s5, s6, s7, s8, s9, s10, s11, s12, s13, s14, s15, s16, s17, s18, s19, s20, s21, s22⟩
             go_simp
             with_reducible rfl
            rotate_left
            ·simp only [Act.put, List.setIfInBounds_toArray, List.set_cons_zero, List.set_cons_succ, i64_w, i32_w]
             rfl
            refine one_ (i := 5) (N := some 68) #[true, true, true, true, true, true, true, false, false, false, false, false, false, false, false, false, false, false, false, false, false, false, false, false, false, false, false, false, false, false, false, false, false, false, false, false, false, false, false, false, false, false, false, false, false, false, false] rfl rfl (one_of HT_.out (by kernel_rfl)) (by decide) (fun K hK => ?_)
            refine goes_ Tryd.func17 (by kernel_rfl) rfl #[.agg #[.string t204, .int .i64 t205, .string t206, .int .i64 t207, .bool t208, .bool t209, .slice Ao116 t210.length co116]] (by rfl) rfl rfl (by (try simp only [List.map_toArray, List.map_cons, List.map_nil]); first | done | rfl | (simp only [List.length_drop, List.length_take]; rfl)) ?_
            with_reducible refine (squelchlaw05_Plain.calls kj12 t204 t205 t206 t207 t208 t209 _ _ t210 t230 _ ?side1 ?side2 A46.out).mono ?_
            (case side1 => repeat (first | exact (Kd.R_reads' HO212.out).2.2 | (with_reducible refine Kd.C_alloc ?_ _) | (with_reducible refine Kd.C_drewN ?_ _) | (with_reducible refine Kd.C_drew ?_)))
            (case side2 => exact (Kd.R_reads' HO212.out).2.1)
            rintro e w139 ⟨v231, rfl, ho0, hb⟩
            refine ⟨_, rfl, ?_⟩
            have n0_ := Aside0.mk (Kd.R_elder' (by (with_reducible repeat (first | apply Kd.R_alloc | apply Kd.R_drewN | apply Kd.R_drew)); exact HO_198000.out) (Kd.R_base ho0) hb)
            have n1_ := Aside0.mk (Kd.R_below (by (with_reducible repeat (first | apply Kd.R_alloc | apply Kd.R_drewN | apply Kd.R_drew)); exact HO212.out) hb)
            have n2_ := Aside0.mk (Kd.R_elder' (by (with_reducible repeat (first | apply Kd.R_alloc | apply Kd.R_drewN | apply Kd.R_drew)); exact HO217.out) (Kd.R_base ho0) hb)
            have n3_ := Aside0.mk (Kd.R_below (by (with_reducible repeat (first | apply Kd.R_alloc | apply Kd.R_drewN | apply Kd.R_drew)); exact HO228.out) hb)
            have n4_ := Aside0.mk (Kd.R_lower (Kd.R_new' (Kd.R_new' ho0 (Kd.R_lt (by (with_reducible repeat (first | apply Kd.R_alloc | apply Kd.R_drewN | apply Kd.R_drew)); exact HO_198000.out))) (Kd.R_lt (by (with_reducible repeat (first | apply Kd.R_alloc | apply Kd.R_drewN | apply Kd.R_drew)); exact HO217.out))) (below_size (by repeat (first | (with_reducible first | exact HB.out | apply below_alloc | apply pw_below_drewN | apply below_drew1 | refine below_set ?_ GE191.out | refine below_set ?_ GE197.out | refine below_set ?_ GE201.out | refine below_set ?_ GE214.out | refine below_set ?_ GE219.out | refine below_set ?_ GE229.out) | exact HB.out))))
            have n5_ := Aside0.mk (blk_below (g := gb191) (o := .cells #[.string a0_0, .int .i64 a0_1, .string a0_2, .int .i64 a0_3, .bool false, .bool a0_5, .slice A0_6 l0_6.length c0_6] 26 (0, 0)) (by (with_reducible repeat (first | refine blk_drewN ?_ _ | refine blk_drew ?_ | refine blk_alloc ?_ _)); exact BK191.out) hb)
            have n6_ := Aside0.mk (blk_below (g := gb197) (o := .cells #[.slice Ao21 t194.length co21] 31 (0, 0)) (by (with_reducible repeat (first | refine blk_drewN ?_ _ | refine blk_drew ?_ | refine blk_alloc ?_ _)); exact BK197.out) hb)
            have n7_ := Aside0.mk (blk_below (g := gb201) (o := .cells #[.string t198, .int .i64 t199] 23 (0, 0)) (by (with_reducible repeat (first | refine blk_drewN ?_ _ | refine blk_drew ?_ | refine blk_alloc ?_ _)); exact BK201.out) hb)
            have n8_ := Aside0.mk (blk_below (g := gb214) (o := .cells #[.string t204, .int .i64 t205, .string t206, .int .i64 t207, .bool t208, .bool t209, .slice Ao116 t210.length co116] 26 (0, 0)) (by (with_reducible repeat (first | refine blk_drewN ?_ _ | refine blk_drew ?_ | refine blk_alloc ?_ _)); exact BK214.out) hb)
            have n9_ := Aside0.mk (blk_below (g := gb219) (o := .cells #[.slice Ao121 t215.length co121] 31 (0, 0)) (by (with_reducible repeat (first | refine blk_drewN ?_ _ | refine blk_drew ?_ | refine blk_alloc ?_ _)); exact BK219.out) hb)
            have n10_ := Aside0.mk (blk_below (g := gb229) (o := .cells #[.string t220, .int .i64 t221, .string t222, .int .i64 t223, .bool t224, .bool t225, .slice Ao136 t226.length co136] 26 (0, 0)) (by (with_reducible repeat (first | refine blk_drewN ?_ _ | refine blk_drew ?_ | refine blk_alloc ?_ _)); exact BK229.out) hb)
            have n11_ := Aside0.mk (below_step (by repeat (first | (with_reducible first | exact HB.out | apply below_alloc | apply pw_below_drewN | apply below_drew1 | refine below_set ?_ GE191.out | refine below_set ?_ GE197.out | refine below_set ?_ GE201.out | refine below_set ?_ GE214.out | refine below_set ?_ GE219.out | refine below_set ?_ GE229.out) | exact HB.out)) hb)
            clear HO_198000
            clear HO212
            clear HO217
            clear HO228
            clear BK191
            clear BK197
            clear BK201
            clear BK214
            clear BK219
            clear BK229
            clear HB
            have HO_198000 := n0_
            have HO212 := n1_
            have HO217 := n2_
            have HO228 := n3_
            have HO232 := n4_
            have BK191 := n5_
            have BK197 := n6_
            have BK201 := n7_
            have BK214 := n8_
            have BK219 := n9_
            have BK229 := n10_
            have HB := n11_
            clear n0_ n1_ n2_ n3_ n4_ n5_ n6_ n7_ n8_ n9_ n10_ n11_
            (try clear hb)
            (try clear hb2)
            (try clear hk)
            (try clear hi)
            (try clear ho0)
            obtain ⟨Ao140, co140, eo140⟩ := Kd.R_slice HO232.out
            (first | subst eo140 | (injection eo140 with f1_ f2_ f3_; have f4_ := f1_.symm; have f5_ := f3_.symm; clear f1_ f2_ f3_; subst f4_; subst f5_))
            refine hK.out _ _ ⟨(blk_cell BK214.out 0).trans rfl, (blk_cell BK214.out 1).trans rfl, (blk_cell BK214.out 2).trans rfl, (blk_cell BK214.out 3).trans rfl, (blk_cell BK214.out 4).trans rfl, (blk_cell BK214.out 5).trans rfl, (blk_cell BK214.out 6).trans rfl, (blk_cell BK219.out 0).trans rfl, (blk_cell BK229.out 0).trans rfl, (blk_cell BK229.out 1).trans rfl, (blk_cell BK229.out 2).trans rfl, (blk_cell BK229.out 3).trans rfl, (blk_cell BK229.out 4).trans rfl, (blk_cell BK229.out 5).trans rfl, (blk_cell BK229.out 6).trans rfl, (blk_cell BK197.out 0).trans rfl, (blk_cell BK191.out 0).trans rfl, (blk_cell BK191.out 1).trans rfl, (blk_cell BK191.out 2).trans rfl, (blk_cell BK191.out 3).trans rfl, (blk_cell BK191.out 4).trans rfl, (blk_cell BK191.out 5).trans rfl, (blk_cell BK191.out 6).trans rfl⟩ (fun hHeld => ?_)
            clear hK K
            refine norm_ (a' := ?_) ?_ ?_
            rotate_left
            ·show Act.put _ (some 68) _ = _
             simp only [Act.put, List.setIfInBounds_toArray, List.set_cons_zero, List.set_cons_succ, i64_w, i32_w]
             rfl
            refine one_ (i := 7) (N := some 70) #[true, true, true, true, true, true, true, true, false, false, false, false, false, false, false, false, false, false, false, false, false, false, false, false, false, false, false, false, false, false, false, false, false, false, false, false, false, false, false, false, false, false, false, false, false, false, false] rfl rfl (one_of HT_.out (by kernel_rfl)) (by decide) (fun K hK => ?_)
            refine goes_ Tryd.func23 (by kernel_rfl) rfl #[.agg #[.slice Ao140 t230.length co140], .agg #[.slice Ao121 t215.length co121]] (by rfl) rfl rfl (by (try simp only [List.map_toArray, List.map_cons, List.map_nil]); first | done | rfl | (simp only [List.length_drop, List.length_take]; rfl)) ?_
            with_reducible refine (squelchref05_Same.calls kj12 _ _ t230 _ _ t215 true _ ?side1 ?side2 ?side3 ?side4 A47.out).mono ?_
            (case side1 => repeat (first | exact (Kd.R_reads' HO232.out).2.2 | (with_reducible refine Kd.C_alloc ?_ _) | (with_reducible refine Kd.C_drewN ?_ _) | (with_reducible refine Kd.C_drew ?_)))
            (case side2 => exact (Kd.R_reads' HO232.out).2.1)
            (case side3 => repeat (first | exact (Kd.R_reads' HO217.out).2.2 | (with_reducible refine Kd.C_alloc ?_ _) | (with_reducible refine Kd.C_drewN ?_ _) | (with_reducible refine Kd.C_drew ?_)))
            (case side4 => exact (Kd.R_reads' HO217.out).2.1)
            rintro e w141 ⟨rfl, hb⟩
            refine ⟨_, rfl, ?_⟩
            have n0_ := Aside0.mk (Kd.R_below (by (with_reducible repeat (first | apply Kd.R_alloc | apply Kd.R_drewN | apply Kd.R_drew)); exact HO_198000.out) hb)
            have n1_ := Aside0.mk (Kd.R_below (by (with_reducible repeat (first | apply Kd.R_alloc | apply Kd.R_drewN | apply Kd.R_drew)); exact HO212.out) hb)
            have n2_ := Aside0.mk (Kd.R_below (by (with_reducible repeat (first | apply Kd.R_alloc | apply Kd.R_drewN | apply Kd.R_drew)); exact HO217.out) hb)
            have n3_ := Aside0.mk (Kd.R_below (by (with_reducible repeat (first | apply Kd.R_alloc | apply Kd.R_drewN | apply Kd.R_drew)); exact HO228.out) hb)
            have n4_ := Aside0.mk (Kd.R_below (by (with_reducible repeat (first | apply Kd.R_alloc | apply Kd.R_drewN | apply Kd.R_drew)); exact HO232.out) hb)
            have n5_ := Aside0.mk (blk_below (g := gb191) (o := .cells #[.string a0_0, .int .i64 a0_1, .string a0_2, .int .i64 a0_3, .bool false, .bool a0_5, .slice A0_6 l0_6.length c0_6] 26 (0, 0)) (by (with_reducible repeat (first | refine blk_drewN ?_ _ | refine blk_drew ?_ | refine blk_alloc ?_ _)); exact BK191.out) hb)
            have n6_ := Aside0.mk (blk_below (g := gb197) (o := .cells #[.slice Ao21 t194.length co21] 31 (0, 0)) (by (with_reducible repeat (first | refine blk_drewN ?_ _ | refine blk_drew ?_ | refine blk_alloc ?_ _)); exact BK197.out) hb)
            have n7_ := Aside0.mk (blk_below (g := gb201) (o := .cells #[.string t198, .int .i64 t199] 23 (0, 0)) (by (with_reducible repeat (first | refine blk_drewN ?_ _ | refine blk_drew ?_ | refine blk_alloc ?_ _)); exact BK201.out) hb)
            have n8_ := Aside0.mk (blk_below (g := gb214) (o := .cells #[.string t204, .int .i64 t205, .string t206, .int .i64 t207, .bool t208, .bool t209, .slice Ao116 t210.length co116] 26 (0, 0)) (by (with_reducible repeat (first | refine blk_drewN ?_ _ | refine blk_drew ?_ | refine blk_alloc ?_ _)); exact BK214.out) hb)
            have n9_ := Aside0.mk (blk_below (g := gb219) (o := .cells #[.slice Ao121 t215.length co121] 31 (0, 0)) (by (with_reducible repeat (first | refine blk_drewN ?_ _ | refine blk_drew ?_ | refine blk_alloc ?_ _)); exact BK219.out) hb)
            have n10_ := Aside0.mk (blk_below (g := gb229) (o := .cells #[.string t220, .int .i64 t221, .string t222, .int .i64 t223, .bool t224, .bool t225, .slice Ao136 t226.length co136] 26 (0, 0)) (by (with_reducible repeat (first | refine blk_drewN ?_ _ | refine blk_drew ?_ | refine blk_alloc ?_ _)); exact BK229.out) hb)
            have n11_ := Aside0.mk (below_step (by repeat (first | (with_reducible first | exact HB.out | apply below_alloc | apply pw_below_drewN | apply below_drew1 | refine below_set ?_ GE191.out | refine below_set ?_ GE197.out | refine below_set ?_ GE201.out | refine below_set ?_ GE214.out | refine below_set ?_ GE219.out | refine below_set ?_ GE229.out) | exact HB.out)) hb)
            clear HO_198000
            clear HO212
            clear HO217
            clear HO228
            clear HO232
            clear BK191
            clear BK197
            clear BK201
            clear BK214
            clear BK219
            clear BK229
            clear HB
            have HO_198000 := n0_
            have HO212 := n1_
            have HO217 := n2_
            have HO228 := n3_
            have HO232 := n4_
            have BK191 := n5_
            have BK197 := n6_
            have BK201 := n7_
            have BK214 := n8_
            have BK219 := n9_
            have BK229 := n10_
            have HB := n11_
            clear n0_ n1_ n2_ n3_ n4_ n5_ n6_ n7_ n8_ n9_ n10_ n11_
            (try clear hb)
            (try clear hb2)
            (try clear hk)
            (try clear hi)
            refine hK.out _ _ ⟨(blk_cell BK214.out 0).trans rfl, (blk_cell BK214.out 1).trans rfl, (blk_cell BK214.out 2).trans rfl, (blk_cell BK214.out 3).trans rfl, (blk_cell BK214.out 4).trans rfl, (blk_cell BK214.out 5).trans rfl, (blk_cell BK214.out 6).trans rfl, (blk_cell BK219.out 0).trans rfl, (blk_cell BK229.out 0).trans rfl, (blk_cell BK229.out 1).trans rfl, (blk_cell BK229.out 2).trans rfl, (blk_cell BK229.out 3).trans rfl, (blk_cell BK229.out 4).trans rfl, (blk_cell BK229.out 5).trans rfl, (blk_cell BK229.out 6).trans rfl, (blk_cell BK197.out 0).trans rfl, (blk_cell BK191.out 0).trans rfl, (blk_cell BK191.out 1).trans rfl, (blk_cell BK191.out 2).trans rfl, (blk_cell BK191.out 3).trans rfl, (blk_cell BK191.out 4).trans rfl, (blk_cell BK191.out 5).trans rfl, (blk_cell BK191.out 6).trans rfl⟩ (fun hHeld => ?_)
            clear hK K
            refine norm_ (a' := ?_) ?_ ?_
            rotate_left
            ·show Act.put _ (some 70) _ = _
             simp only [Act.put, List.setIfInBounds_toArray, List.set_cons_zero, List.set_cons_succ, i64_w, i32_w]
             rfl
            refine pure_ (i := 8) (N := some 71) (v := ?_) (a' := ?_) #[true, true, true, true, true, true, true, true, true, false, false, false, false, false, false, false, false, false, false, false, false, false, false, false, false, false, false, false, false, false, false, false, false, false, false, false, false, false, false, false, false, false, false, false, false, false, false] rfl rfl (any_of HT_.out (by kernel_rfl)) (fun _ _ _ h => h) (Or.inl ⟨by rfl, ?_⟩) ?_ ?_
            rotate_left
            ·intro w'
             go_simp
             with_reducible rfl
            rotate_left
            ·simp only [Act.put, List.setIfInBounds_toArray, List.set_cons_zero, List.set_cons_succ, i64_w, i32_w]
             rfl
            refine pure_ (i := 9) (N := some 72) (v := ?_) (a' := ?_) #[true, true, true, true, true, true, true, true, true, true, false, false, false, false, false, false, false, false, false, false, false, false, false, false, false, false, false, false, false, false, false, false, false, false, false, false, false, false, false, false, false, false, false, false, false, false, false] rfl rfl (any_of HT_.out (by kernel_rfl)) (fun _ _ _ h => h) (Or.inl ⟨by rfl, ?_⟩) ?_ ?_
            rotate_left
            ·intro w'
             go_simp
             with_reducible rfl
            rotate_left
            ·simp only [Act.put, List.setIfInBounds_toArray, List.set_cons_zero, List.set_cons_succ, i64_w, i32_w]
             rfl
            refine take_ (i := 10) (N := some 73) (v := ?_) (a' := ?_) #[true, true, true, true, true, true, true, true, true, true, true, false, false, false, false, false, false, false, false, false, false, false, false, false, false, false, false, false, false, false, false, false, false, false, false, false, false, false, false, false, false, false, false, false, false, false, false] rfl rfl (take_ofW HT_.out HW_.out (by kernel_rfl)) (fun _ _ _ h => h) (Or.inl ⟨by rfl, ?_⟩) hHeld ?_ ?_
            rotate_left
            ·rintro w' ⟨s0, s1, s2, s3, s4, s5, s6, s7, s8, s9, s10, s11, s12, s13, s14, s15, s16, s17, s18, s19, s20, s21, s22⟩
             go_simp
             with_reducible rfl
            rotate_left
            ·simp only [Act.put, List.setIfInBounds_toArray, List.set_cons_zero, List.set_cons_succ, i64_w, i32_w]
             rfl
            refine take_ (i := 12) (N := some 75) (v := ?_) (a' := ?_) #[true, true, true, true, true, true, true, true, true, true, true, false, true, false, false, false, false, false, false, false, false, false, false, false, false, false, false, false, false, false, false, false, false, false, false, false, false, false, false, false, false, false, false, false, false, false, false] rfl rfl (take_ofW HT_.out HW_.out (by kernel_rfl)) (fun _ _ _ h => h) (Or.inl ⟨by rfl, ?_⟩) hHeld ?_ ?_
            rotate_left
            ·rintro w' ⟨s0, s1, s2, s3, s4, s5, s6, s7, s8, s9, s10, s11, s12, s13, s14, s15, s16, s17, s18, s19, s20, s21, s22⟩
             go_simp
             with_reducible rfl
            rotate_left
            ·simp only [Act.put, List.setIfInBounds_toArray, List.set_cons_zero, List.set_cons_succ, i64_w, i32_w]
             rfl
            refine one_ (i := 11) (N := some 74) #[true, true, true, true, true, true, true, true, true, true, true, true, true, false, false, false, false, false, false, false, false, false, false, false, false, false, false, false, false, false, false, false, false, false, false, false, false, false, false, false, false, false, false, false, false, false, false] rfl rfl (one_of HT_.out (by kernel_rfl)) (by decide) (fun K hK => ?_)
            refine goes_ Tryd.func17 (by kernel_rfl) rfl #[.agg #[.string t220, .int .i64 t221, .string t222, .int .i64 t223, .bool t224, .bool t225, .slice Ao136 t226.length co136]] (by rfl) rfl rfl (by (try simp only [List.map_toArray, List.map_cons, List.map_nil]); first | done | rfl | (simp only [List.length_drop, List.length_take]; rfl)) ?_
            with_reducible refine (squelchlaw05_Plain.calls kj12 t220 t221 t222 t223 t224 t225 _ _ t226 t234 _ ?side1 ?side2 A49.out).mono ?_
            (case side1 => repeat (first | exact (Kd.R_reads' HO228.out).2.2 | (with_reducible refine Kd.C_alloc ?_ _) | (with_reducible refine Kd.C_drewN ?_ _) | (with_reducible refine Kd.C_drew ?_)))
            (case side2 => exact (Kd.R_reads' HO228.out).2.1)
            rintro e w142 ⟨v235, rfl, ho0, hb⟩
            refine ⟨_, rfl, ?_⟩
            have n0_ := Aside0.mk (Kd.R_elder' (by (with_reducible repeat (first | apply Kd.R_alloc | apply Kd.R_drewN | apply Kd.R_drew)); exact HO_198000.out) (Kd.R_base ho0) hb)
            have n1_ := Aside0.mk (Kd.R_below (by (with_reducible repeat (first | apply Kd.R_alloc | apply Kd.R_drewN | apply Kd.R_drew)); exact HO212.out) hb)
            have n2_ := Aside0.mk (Kd.R_elder' (by (with_reducible repeat (first | apply Kd.R_alloc | apply Kd.R_drewN | apply Kd.R_drew)); exact HO217.out) (Kd.R_base ho0) hb)
            have n3_ := Aside0.mk (Kd.R_below (by (with_reducible repeat (first | apply Kd.R_alloc | apply Kd.R_drewN | apply Kd.R_drew)); exact HO228.out) hb)
            have n4_ := Aside0.mk (Kd.R_elder' (by (with_reducible repeat (first | apply Kd.R_alloc | apply Kd.R_drewN | apply Kd.R_drew)); exact HO232.out) (Kd.R_base ho0) hb)
            have n5_ := Aside0.mk (Kd.R_lower (Kd.R_new' (Kd.R_new' (Kd.R_new' ho0 (Kd.R_lt (by (with_reducible repeat (first | apply Kd.R_alloc | apply Kd.R_drewN | apply Kd.R_drew)); exact HO_198000.out))) (Kd.R_lt (by (with_reducible repeat (first | apply Kd.R_alloc | apply Kd.R_drewN | apply Kd.R_drew)); exact HO217.out))) (Kd.R_lt (by (with_reducible repeat (first | apply Kd.R_alloc | apply Kd.R_drewN | apply Kd.R_drew)); exact HO232.out))) (below_size (by repeat (first | (with_reducible first | exact HB.out | apply below_alloc | apply pw_below_drewN | apply below_drew1 | refine below_set ?_ GE191.out | refine below_set ?_ GE197.out | refine below_set ?_ GE201.out | refine below_set ?_ GE214.out | refine below_set ?_ GE219.out | refine below_set ?_ GE229.out) | exact HB.out))))
            have n6_ := Aside0.mk (blk_below (g := gb191) (o := .cells #[.string a0_0, .int .i64 a0_1, .string a0_2, .int .i64 a0_3, .bool false, .bool a0_5, .slice A0_6 l0_6.length c0_6] 26 (0, 0)) (by (with_reducible repeat (first | refine blk_drewN ?_ _ | refine blk_drew ?_ | refine blk_alloc ?_ _)); exact BK191.out) hb)
            have n7_ := Aside0.mk (blk_below (g := gb197) (o := .cells #[.slice Ao21 t194.length co21] 31 (0, 0)) (by (with_reducible repeat (first | refine blk_drewN ?_ _ | refine blk_drew ?_ | refine blk_alloc ?_ _)); exact BK197.out) hb)
            have n8_ := Aside0.mk (blk_below (g := gb201) (o := .cells #[.string t198, .int .i64 t199] 23 (0, 0)) (by (with_reducible repeat (first | refine blk_drewN ?_ _ | refine blk_drew ?_ | refine blk_alloc ?_ _)); exact BK201.out) hb)
            have n9_ := Aside0.mk (blk_below (g := gb214) (o := .cells #[.string t204, .int .i64 t205, .string t206, .int .i64 t207, .bool t208, .bool t209, .slice Ao116 t210.length co116] 26 (0, 0)) (by (with_reducible repeat (first | refine blk_drewN ?_ _ | refine blk_drew ?_ | refine blk_alloc ?_ _)); exact BK214.out) hb)
            have n10_ := Aside0.mk (blk_below (g := gb219) (o := .cells #[.slice Ao121 t215.length co121] 31 (0, 0)) (by (with_reducible repeat (first | refine blk_drewN ?_ _ | refine blk_drew ?_ | refine blk_alloc ?_ _)); exact BK219.out) hb)
            have n11_ := Aside0.mk (blk_below (g := gb229) (o := .cells #[.string t220, .int .i64 t221, .string t222, .int .i64 t223, .bool t224, .bool t225, .slice Ao136 t226.length co136] 26 (0, 0)) (by (with_reducible repeat (first | refine blk_drewN ?_ _ | refine blk_drew ?_ | refine blk_alloc ?_ _)); exact BK229.out) hb)
            have n12_ := Aside0.mk (below_step (by repeat (first | (with_reducible first | exact HB.out | apply below_alloc | apply pw_below_drewN | apply below_drew1 | refine below_set ?_ GE191.out | refine below_set ?_ GE197.out | refine below_set ?_ GE201.out | refine below_set ?_ GE214.out | refine below_set ?_ GE219.out | refine below_set ?_ GE229.out) | exact HB.out)) hb)
            clear HO_198000
            clear HO212
            clear HO217
            clear HO228
            clear HO232
            clear BK191
            clear BK197
            clear BK201
            clear BK214
            clear BK219
            clear BK229
            clear HB
            have HO_198000 := n0_
            have HO212 := n1_
            have HO217 := n2_
            have HO228 := n3_
            have HO232 := n4_
            have HO236 := n5_
            have BK191 := n6_
            have BK197 := n7_
            have BK201 := n8_
            have BK214 := n9_
            have BK219 := n10_
            have BK229 := n11_
            have HB := n12_
            clear n0_ n1_ n2_ n3_ n4_ n5_ n6_ n7_ n8_ n9_ n10_ n11_ n12_
            (try clear hb)
            (try clear hb2)
            (try clear hk)
            (try clear hi)
            (try clear ho0)
            refine hK.out _ _ ⟨(blk_cell BK214.out 0).trans rfl, (blk_cell BK214.out 1).trans rfl, (blk_cell BK214.out 2).trans rfl, (blk_cell BK214.out 3).trans rfl, (blk_cell BK214.out 4).trans rfl, (blk_cell BK214.out 5).trans rfl, (blk_cell BK214.out 6).trans rfl, (blk_cell BK219.out 0).trans rfl, (blk_cell BK229.out 0).trans rfl, (blk_cell BK229.out 1).trans rfl, (blk_cell BK229.out 2).trans rfl, (blk_cell BK229.out 3).trans rfl, (blk_cell BK229.out 4).trans rfl, (blk_cell BK229.out 5).trans rfl, (blk_cell BK229.out 6).trans rfl, (blk_cell BK197.out 0).trans rfl, (blk_cell BK191.out 0).trans rfl, (blk_cell BK191.out 1).trans rfl, (blk_cell BK191.out 2).trans rfl, (blk_cell BK191.out 3).trans rfl, (blk_cell BK191.out 4).trans rfl, (blk_cell BK191.out 5).trans rfl, (blk_cell BK191.out 6).trans rfl⟩ (fun hHeld => ?_)
            clear hK K
            refine norm_ (a' := ?_) ?_ ?_
            rotate_left
            ·show Act.put _ (some 74) _ = _
             simp only [Act.put, List.setIfInBounds_toArray, List.set_cons_zero, List.set_cons_succ, i64_w, i32_w]
             rfl
            refine one_ (i := 13) (N := some 76) #[true, true, true, true, true, true, true, true, true, true, true, true, true, true, false, false, false, false, false, false, false, false, false, false, false, false, false, false, false, false, false, false, false, false, false, false, false, false, false, false, false, false, false, false, false, false, false] rfl rfl (one_of HT_.out (by kernel_rfl)) (by decide) (fun K hK => ?_)
            refine goes_ Tryd.func24 (by kernel_rfl) rfl #[.agg #[.slice Ao21 t194.length co21]] (by rfl) rfl rfl (by (try simp only [List.map_toArray, List.map_cons, List.map_nil]); first | done | rfl | (simp only [List.length_drop, List.length_take]; rfl)) ?_
            with_reducible refine (squelchref05_Back.calls kj12 _ _ t194 t237 _ ?side1 ?side2 A50.out).mono ?_
            (case side1 => repeat (first | exact (Kd.R_reads' HO_198000.out).2.2 | (with_reducible refine Kd.C_alloc ?_ _) | (with_reducible refine Kd.C_drewN ?_ _) | (with_reducible refine Kd.C_drew ?_)))
            (case side2 => exact (Kd.R_reads' HO_198000.out).2.1)
            rintro e w143 ⟨v238, rfl, ho0, hb⟩
            refine ⟨_, rfl, ?_⟩
            have n0_ := Aside0.mk (Kd.R_elder' (by (with_reducible repeat (first | apply Kd.R_alloc | apply Kd.R_drewN | apply Kd.R_drew)); exact HO_198000.out) (Kd.R_base ho0) hb)
            have n1_ := Aside0.mk (Kd.R_below (by (with_reducible repeat (first | apply Kd.R_alloc | apply Kd.R_drewN | apply Kd.R_drew)); exact HO212.out) hb)
            have n2_ := Aside0.mk (Kd.R_elder' (by (with_reducible repeat (first | apply Kd.R_alloc | apply Kd.R_drewN | apply Kd.R_drew)); exact HO217.out) (Kd.R_base ho0) hb)
            have n3_ := Aside0.mk (Kd.R_below (by (with_reducible repeat (first | apply Kd.R_alloc | apply Kd.R_drewN | apply Kd.R_drew)); exact HO228.out) hb)
            have n4_ := Aside0.mk (Kd.R_elder' (by (with_reducible repeat (first | apply Kd.R_alloc | apply Kd.R_drewN | apply Kd.R_drew)); exact HO232.out) (Kd.R_base ho0) hb)
            have n5_ := Aside0.mk (Kd.R_elder' (by (with_reducible repeat (first | apply Kd.R_alloc | apply Kd.R_drewN | apply Kd.R_drew)); exact HO236.out) (Kd.R_base ho0) hb)
            have n6_ := Aside0.mk (Kd.R_lower (Kd.R_new' (Kd.R_new' (Kd.R_new' (Kd.R_new' ho0 (Kd.R_lt (by (with_reducible repeat (first | apply Kd.R_alloc | apply Kd.R_drewN | apply Kd.R_drew)); exact HO_198000.out))) (Kd.R_lt (by (with_reducible repeat (first | apply Kd.R_alloc | apply Kd.R_drewN | apply Kd.R_drew)); exact HO217.out))) (Kd.R_lt (by (with_reducible repeat (first | apply Kd.R_alloc | apply Kd.R_drewN | apply Kd.R_drew)); exact HO232.out))) (Kd.R_lt (by (with_reducible repeat (first | apply Kd.R_alloc | apply Kd.R_drewN | apply Kd.R_drew)); exact HO236.out))) (below_size (by repeat (first | (with_reducible first | exact HB.out | apply below_alloc | apply pw_below_drewN | apply below_drew1 | refine below_set ?_ GE191.out | refine below_set ?_ GE197.out | refine below_set ?_ GE201.out | refine below_set ?_ GE214.out | refine below_set ?_ GE219.out | refine below_set ?_ GE229.out) | exact HB.out))))
            have n7_ := Aside0.mk (blk_below (g := gb191) (o := .cells #[.string a0_0, .int .i64 a0_1, .string a0_2, .int .i64 a0_3, .bool false, .bool a0_5, .slice A0_6 l0_6.length c0_6] 26 (0, 0)) (by (with_reducible repeat (first | refine blk_drewN ?_ _ | refine blk_drew ?_ | refine blk_alloc ?_ _)); exact BK191.out) hb)
            have n8_ := Aside0.mk (blk_below (g := gb197) (o := .cells #[.slice Ao21 t194.length co21] 31 (0, 0)) (by (with_reducible repeat (first | refine blk_drewN ?_ _ | refine blk_drew ?_ | refine blk_alloc ?_ _)); exact BK197.out) hb)
            have n9_ := Aside0.mk (blk_below (g := gb201) (o := .cells #[.string t198, .int .i64 t199] 23 (0, 0)) (by (with_reducible repeat (first | refine blk_drewN ?_ _ | refine blk_drew ?_ | refine blk_alloc ?_ _)); exact BK201.out) hb)
            have n10_ := Aside0.mk (blk_below (g := gb214) (o := .cells #[.string t204, .int .i64 t205, .string t206, .int .i64 t207, .bool t208, .bool t209, .slice Ao116 t210.length co116] 26 (0, 0)) (by (with_reducible repeat (first | refine blk_drewN ?_ _ | refine blk_drew ?_ | refine blk_alloc ?_ _)); exact BK214.out) hb)
            have n11_ := Aside0.mk (blk_below (g := gb219) (o := .cells #[.slice Ao121 t215.length co121] 31 (0, 0)) (by (with_reducible repeat (first | refine blk_drewN ?_ _ | refine blk_drew ?_ | refine blk_alloc ?_ _)); exact BK219.out) hb)
            have n12_ := Aside0.mk (blk_below (g := gb229) (o := .cells #[.string t220, .int .i64 t221, .string t222, .int .i64 t223, .bool t224, .bool t225, .slice Ao136 t226.length co136] 26 (0, 0)) (by (with_reducible repeat (first | refine blk_drewN ?_ _ | refine blk_drew ?_ | refine blk_alloc ?_ _)); exact BK229.out) hb)
            have n13_ := Aside0.mk (below_step (by repeat (first | (with_reducible first | exact HB.out | apply below_alloc | apply pw_below_drewN | apply below_drew1 | refine below_set ?_ GE191.out | refine below_set ?_ GE197.out | refine below_set ?_ GE201.out | refine below_set ?_ GE214.out | refine below_set ?_ GE219.out | refine below_set ?_ GE229.out) | exact HB.out)) hb)
            clear HO_198000
            clear HO212
            clear HO217
            clear HO228
            clear HO232
            clear HO236
            clear BK191
            clear BK197
            clear BK201
            clear BK214
            clear BK219
            clear BK229
            clear HB
            have HO_198000 := n0_
            have HO212 := n1_
            have HO217 := n2_
            have HO228 := n3_
            have HO232 := n4_
            have HO236 := n5_
            have HO239 := n6_
            have BK191 := n7_
            have BK197 := n8_
            have BK201 := n9_
            have BK214 := n10_
            have BK219 := n11_
            have BK229 := n12_
            have HB := n13_
            clear n0_ n1_ n2_ n3_ n4_ n5_ n6_ n7_ n8_ n9_ n10_ n11_ n12_ n13_
            (try clear hb)
            (try clear hb2)
            (try clear hk)
            (try clear hi)
            (try clear ho0)
            obtain ⟨Ao144, co144, eo144⟩ := Kd.R_slice HO236.out
            (first | subst eo144 | (injection eo144 with f1_ f2_ f3_; have f4_ := f1_.symm; have f5_ := f3_.symm; clear f1_ f2_ f3_; subst f4_; subst f5_))
            obtain ⟨Ao145, co145, eo145⟩ := Kd.R_slice HO239.out
            (first | subst eo145 | (injection eo145 with f1_ f2_ f3_; have f4_ := f1_.symm; have f5_ := f3_.symm; clear f1_ f2_ f3_; subst f4_; subst f5_))
            refine hK.out _ _ ⟨(blk_cell BK214.out 0).trans rfl, (blk_cell BK214.out 1).trans rfl, (blk_cell BK214.out 2).trans rfl, (blk_cell BK214.out 3).trans rfl, (blk_cell BK214.out 4).trans rfl, (blk_cell BK214.out 5).trans rfl, (blk_cell BK214.out 6).trans rfl, (blk_cell BK219.out 0).trans rfl, (blk_cell BK229.out 0).trans rfl, (blk_cell BK229.out 1).trans rfl, (blk_cell BK229.out 2).trans rfl, (blk_cell BK229.out 3).trans rfl, (blk_cell BK229.out 4).trans rfl, (blk_cell BK229.out 5).trans rfl, (blk_cell BK229.out 6).trans rfl, (blk_cell BK197.out 0).trans rfl, (blk_cell BK191.out 0).trans rfl, (blk_cell BK191.out 1).trans rfl, (blk_cell BK191.out 2).trans rfl, (blk_cell BK191.out 3).trans rfl, (blk_cell BK191.out 4).trans rfl, (blk_cell BK191.out 5).trans rfl, (blk_cell BK191.out 6).trans rfl⟩ (fun hHeld => ?_)
            clear hK K
            refine norm_ (a' := ?_) ?_ ?_
            rotate_left
            ·show Act.put _ (some 76) _ = _
             simp only [Act.put, List.setIfInBounds_toArray, List.set_cons_zero, List.set_cons_succ, i64_w, i32_w]
             rfl
            refine one_ (i := 14) (N := some 77) #[true, true, true, true, true, true, true, true, true, true, true, true, true, true, true, false, false, false, false, false, false, false, false, false, false, false, false, false, false, false, false, false, false, false, false, false, false, false, false, false, false, false, false, false, false, false, false] rfl rfl (one_of HT_.out (by kernel_rfl)) (by decide) (fun K hK => ?_)
            refine goes_ Tryd.func23 (by kernel_rfl) rfl #[.agg #[.slice Ao144 t234.length co144], .agg #[.slice Ao145 t237.length co145]] (by rfl) rfl rfl (by (try simp only [List.map_toArray, List.map_cons, List.map_nil]); first | done | rfl | (simp only [List.length_drop, List.length_take]; rfl)) ?_
            with_reducible refine (squelchref05_Same.calls kj12 _ _ t234 _ _ t237 true _ ?side1 ?side2 ?side3 ?side4 A51.out).mono ?_
            (case side1 => repeat (first | exact (Kd.R_reads' HO236.out).2.2 | (with_reducible refine Kd.C_alloc ?_ _) | (with_reducible refine Kd.C_drewN ?_ _) | (with_reducible refine Kd.C_drew ?_)))
            (case side2 => exact (Kd.R_reads' HO236.out).2.1)
            (case side3 => repeat (first | exact (Kd.R_reads' HO239.out).2.2 | (with_reducible refine Kd.C_alloc ?_ _) | (with_reducible refine Kd.C_drewN ?_ _) | (with_reducible refine Kd.C_drew ?_)))
            (case side4 => exact (Kd.R_reads' HO239.out).2.1)
            rintro e w146 ⟨rfl, hb⟩
            refine ⟨_, rfl, ?_⟩
            have n0_ := Aside0.mk (Kd.R_below (by (with_reducible repeat (first | apply Kd.R_alloc | apply Kd.R_drewN | apply Kd.R_drew)); exact HO_198000.out) hb)
            have n1_ := Aside0.mk (Kd.R_below (by (with_reducible repeat (first | apply Kd.R_alloc | apply Kd.R_drewN | apply Kd.R_drew)); exact HO212.out) hb)
            have n2_ := Aside0.mk (Kd.R_below (by (with_reducible repeat (first | apply Kd.R_alloc | apply Kd.R_drewN | apply Kd.R_drew)); exact HO217.out) hb)
            have n3_ := Aside0.mk (Kd.R_below (by (with_reducible repeat (first | apply Kd.R_alloc | apply Kd.R_drewN | apply Kd.R_drew)); exact HO228.out) hb)
            have n4_ := Aside0.mk (Kd.R_below (by (with_reducible repeat (first | apply Kd.R_alloc | apply Kd.R_drewN | apply Kd.R_drew)); exact HO232.out) hb)
            have n5_ := Aside0.mk (Kd.R_below (by (with_reducible repeat (first | apply Kd.R_alloc | apply Kd.R_drewN | apply Kd.R_drew)); exact HO236.out) hb)
            have n6_ := Aside0.mk (Kd.R_below (by (with_reducible repeat (first | apply Kd.R_alloc | apply Kd.R_drewN | apply Kd.R_drew)); exact HO239.out) hb)
            have n7_ := Aside0.mk (blk_below (g := gb191) (o := .cells #[.string a0_0, .int .i64 a0_1, .string a0_2, .int .i64 a0_3, .bool false, .bool a0_5, .slice A0_6 l0_6.length c0_6] 26 (0, 0)) (by (with_reducible repeat (first | refine blk_drewN ?_ _ | refine blk_drew ?_ | refine blk_alloc ?_ _)); exact BK191.out) hb)
            have n8_ := Aside0.mk (blk_below (g := gb197) (o := .cells #[.slice Ao21 t194.length co21] 31 (0, 0)) (by (with_reducible repeat (first | refine blk_drewN ?_ _ | refine blk_drew ?_ | refine blk_alloc ?_ _)); exact BK197.out) hb)
            have n9_ := Aside0.mk (blk_below (g := gb201) (o := .cells #[.string t198, .int .i64 t199] 23 (0, 0)) (by (with_reducible repeat (first | refine blk_drewN ?_ _ | refine blk_drew ?_ | refine blk_alloc ?_ _)); exact BK201.out) hb)
            have n10_ := Aside0.mk (blk_below (g := gb214) (o := .cells #[.string t204, .int .i64 t205, .string t206, .int .i64 t207, .bool t208, .bool t209, .slice Ao116 t210.length co116] 26 (0, 0)) (by (with_reducible repeat (first | refine blk_drewN ?_ _ | refine blk_drew ?_ | refine blk_alloc ?_ _)); exact BK214.out) hb)
            have n11_ := Aside0.mk (blk_below (g := gb219) (o := .cells #[.slice Ao121 t215.length co121] 31 (0, 0)) (by (with_reducible repeat (first | refine blk_drewN ?_ _ | refine blk_drew ?_ | refine blk_alloc ?_ _)); exact BK219.out) hb)
            have n12_ := Aside0.mk (blk_below (g := gb229) (o := .cells #[.string t220, .int .i64 t221, .string t222, .int .i64 t223, .bool t224, .bool t225, .slice Ao136 t226.length co136] 26 (0, 0)) (by (with_reducible repeat (first | refine blk_drewN ?_ _ | refine blk_drew ?_ | refine blk_alloc ?_ _)); exact BK229.out) hb)
            have n13_ := Aside0.mk (below_step (by repeat (first | (with_reducible first | exact HB.out | apply below_alloc | apply pw_below_drewN | apply below_drew1 | refine below_set ?_ GE191.out | refine below_set ?_ GE197.out | refine below_set ?_ GE201.out | refine below_set ?_ GE214.out | refine below_set ?_ GE219.out | refine below_set ?_ GE229.out) | exact HB.out)) hb)
            clear HO_198000
            clear HO212
            clear HO217
            clear HO228
            clear HO232
            clear HO236
            clear HO239
            clear BK191
            clear BK197
            clear BK201
            clear BK214
            clear BK219
            clear BK229
            clear HB
            have HO_198000 := n0_
            have HO212 := n1_
            have HO217 := n2_
            have HO228 := n3_
            have HO232 := n4_
            have HO236 := n5_
            have HO239 := n6_
            have BK191 := n7_
            have BK197 := n8_
            have BK201 := n9_
            have BK214 := n10_
            have BK219 := n11_
            have BK229 := n12_
            have HB := n13_
            clear n0_ n1_ n2_ n3_ n4_ n5_ n6_ n7_ n8_ n9_ n10_ n11_ n12_ n13_
            (try clear hb)
            (try clear hb2)
            (try clear hk)
            (try clear hi)
            refine hK.out _ _ ⟨(blk_cell BK214.out 0).trans rfl, (blk_cell BK214.out 1).trans rfl, (blk_cell BK214.out 2).trans rfl, (blk_cell BK214.out 3).trans rfl, (blk_cell BK214.out 4).trans rfl, (blk_cell BK214.out 5).trans rfl, (blk_cell BK214.out 6).trans rfl, (blk_cell BK219.out 0).trans rfl, (blk_cell BK229.out 0).trans rfl, (blk_cell BK229.out 1).trans rfl, (blk_cell BK229.out 2).trans rfl, (blk_cell BK229.out 3).trans rfl, (blk_cell BK229.out 4).trans rfl, (blk_cell BK229.out 5).trans rfl, (blk_cell BK229.out 6).trans rfl, (blk_cell BK197.out 0).trans rfl, (blk_cell BK191.out 0).trans rfl, (blk_cell BK191.out 1).trans rfl, (blk_cell BK191.out 2).trans rfl, (blk_cell BK191.out 3).trans rfl, (blk_cell BK191.out 4).trans rfl, (blk_cell BK191.out 5).trans rfl, (blk_cell BK191.out 6).trans rfl⟩ (fun hHeld => ?_)
            clear hK K
            refine norm_ (a' := ?_) ?_ ?_
            rotate_left
            ·show Act.put _ (some 77) _ = _
             simp only [Act.put, List.setIfInBounds_toArray, List.set_cons_zero, List.set_cons_succ, i64_w, i32_w]
             rfl
            refine pure_ (i := 15) (N := some 78) (v := ?_) (a' := ?_) #[true, true, true, true, true, true, true, true, true, true, true, true, true, true, true, true, false, false, false, false, false, false, false, false, false, false, false, false, false, false, false, false, false, false, false, false, false, false, false, false, false, false, false, false, false, false, false] rfl rfl (any_of HT_.out (by kernel_rfl)) (fun _ _ _ h => h) (Or.inl ⟨by rfl, ?_⟩) ?_ ?_
            rotate_left
            ·intro w'
             go_simp
             with_reducible rfl
            rotate_left
            ·simp only [Act.put, List.setIfInBounds_toArray, List.set_cons_zero, List.set_cons_succ, i64_w, i32_w]
             rfl
            refine pure_ (i := 16) (N := some 79) (v := ?_) (a' := ?_) #[true, true, true, true, true, true, true, true, true, true, true, true, true, true, true, true, true, false, false, false, false, false, false, false, false, false, false, false, false, false, false, false, false, false, false, false, false, false, false, false, false, false, false, false, false, false, false] rfl rfl (any_of HT_.out (by kernel_rfl)) (fun _ _ _ h => h) (Or.inl ⟨by rfl, ?_⟩) ?_ ?_
            rotate_left
            ·intro w'
             go_simp
             with_reducible rfl
            rotate_left
            ·simp only [Act.put, List.setIfInBounds_toArray, List.set_cons_zero, List.set_cons_succ, i64_w, i32_w]
             rfl
            refine take_ (i := 17) (N := some 80) (v := ?_) (a' := ?_) #[true, true, true, true, true, true, true, true, true, true, true, true, true, true, true, true, true, true, false, false, false, false, false, false, false, false, false, false, false, false, false, false, false, false, false, false, false, false, false, false, false, false, false, false, false, false, false] rfl rfl (take_ofW HT_.out HW_.out (by kernel_rfl)) (fun _ _ _ h => h) (Or.inl ⟨by rfl, ?_⟩) hHeld ?_ ?_
            rotate_left
            ·rintro w' ⟨s0, s1, s2, s3, s4, s5, s6, s7, s8, s9, s10, s11, s12, s13, s14, s15, s16, s17, s18, s19, s20, s21, s22⟩
             go_simp
             with_reducible rfl
            rotate_left
            ·simp only [Act.put, List.setIfInBounds_toArray, List.set_cons_zero, List.set_cons_succ, i64_w, i32_w]
             rfl
            refine take_ (i := 19) (N := some 82) (v := ?_) (a' := ?_) #[true, true, true, true, true, true, true, true, true, true, true, true, true, true, true, true, true, true, false, true, false, false, false, false, false, false, false, false, false, false, false, false, false, false, false, false, false, false, false, false, false, false, false, false, false, false, false] rfl rfl (take_ofW HT_.out HW_.out (by kernel_rfl)) (fun _ _ _ h => h) (Or.inl ⟨by rfl, ?_⟩) hHeld ?_ ?_
            rotate_left
            ·rintro w' ⟨s0, s1, s2, s3, s4, s5, s6, s7, s8, s9, s10, s11, s12, s13, s14, s15, s16, s17, s18, s19, s20, s21, s22⟩
             go_simp
             with_reducible rfl
            rotate_left
            ·simp only [Act.put, List.setIfInBounds_toArray, List.set_cons_zero, List.set_cons_succ, i64_w, i32_w]
             rfl
            refine one_ (i := 18) (N := some 81) #[true, true, true, true, true, true, true, true, true, true, true, true, true, true, true, true, true, true, true, true, false, false, false, false, false, false, false, false, false, false, false, false, false, false, false, false, false, false, false, false, false, false, false, false, false, false, false] rfl rfl (one_of HT_.out (by kernel_rfl)) (by decide) (fun K hK => ?_)
            refine goes_ Tryd.func17 (by kernel_rfl) rfl #[.agg #[.string a0_0, .int .i64 a0_1, .string a0_2, .int .i64 a0_3, .bool false, .bool a0_5, .slice A0_6 l0_6.length c0_6]] (by rfl) rfl rfl (by (try simp only [List.map_toArray, List.map_cons, List.map_nil]); first | done | rfl | (simp only [List.length_drop, List.length_take]; rfl)) ?_
            with_reducible refine (squelchlaw05_Plain.calls kj12 a0_0 a0_1 a0_2 a0_3 false a0_5 _ _ l0_6 t241 _ ?side1 ?side2 A53.out).mono ?_
            (case side1 => repeat (first | exact (Kd.C_below HR0_6.out HB.out) | (with_reducible refine Kd.C_alloc ?_ _) | (with_reducible refine Kd.C_drewN ?_ _) | (with_reducible refine Kd.C_drew ?_)))
            (case side2 => exact HC0_6.out)
            rintro e w147 ⟨v242, rfl, ho0, hb⟩
            refine ⟨_, rfl, ?_⟩
            have n0_ := Aside0.mk (Kd.R_elder' (by (with_reducible repeat (first | apply Kd.R_alloc | apply Kd.R_drewN | apply Kd.R_drew)); exact HO_198000.out) (Kd.R_base ho0) hb)
            have n1_ := Aside0.mk (Kd.R_below (by (with_reducible repeat (first | apply Kd.R_alloc | apply Kd.R_drewN | apply Kd.R_drew)); exact HO212.out) hb)
            have n2_ := Aside0.mk (Kd.R_elder' (by (with_reducible repeat (first | apply Kd.R_alloc | apply Kd.R_drewN | apply Kd.R_drew)); exact HO217.out) (Kd.R_base ho0) hb)
            have n3_ := Aside0.mk (Kd.R_below (by (with_reducible repeat (first | apply Kd.R_alloc | apply Kd.R_drewN | apply Kd.R_drew)); exact HO228.out) hb)
            have n4_ := Aside0.mk (Kd.R_elder' (by (with_reducible repeat (first | apply Kd.R_alloc | apply Kd.R_drewN | apply Kd.R_drew)); exact HO232.out) (Kd.R_base ho0) hb)
            have n5_ := Aside0.mk (Kd.R_elder' (by (with_reducible repeat (first | apply Kd.R_alloc | apply Kd.R_drewN | apply Kd.R_drew)); exact HO236.out) (Kd.R_base ho0) hb)
            have n6_ := Aside0.mk (Kd.R_elder' (by (with_reducible repeat (first | apply Kd.R_alloc | apply Kd.R_drewN | apply Kd.R_drew)); exact HO239.out) (Kd.R_base ho0) hb)
            have n7_ := Aside0.mk (Kd.R_lower (Kd.R_new' (Kd.R_new' (Kd.R_new' (Kd.R_new' (Kd.R_new' ho0 (Kd.R_lt (by (with_reducible repeat (first | apply Kd.R_alloc | apply Kd.R_drewN | apply Kd.R_drew)); exact HO_198000.out))) (Kd.R_lt (by (with_reducible repeat (first | apply Kd.R_alloc | apply Kd.R_drewN | apply Kd.R_drew)); exact HO217.out))) (Kd.R_lt (by (with_reducible repeat (first | apply Kd.R_alloc | apply Kd.R_drewN | apply Kd.R_drew)); exact HO232.out))) (Kd.R_lt (by (with_reducible repeat (first | apply Kd.R_alloc | apply Kd.R_drewN | apply Kd.R_drew)); exact HO236.out))) (Kd.R_lt (by (with_reducible repeat (first | apply Kd.R_alloc | apply Kd.R_drewN | apply Kd.R_drew)); exact HO239.out))) (below_size (by repeat (first | (with_reducible first | exact HB.out | apply below_alloc | apply pw_below_drewN | apply below_drew1 | refine below_set ?_ GE191.out | refine below_set ?_ GE197.out | refine below_set ?_ GE201.out | refine below_set ?_ GE214.out | refine below_set ?_ GE219.out | refine below_set ?_ GE229.out) | exact HB.out))))
            have n8_ := Aside0.mk (blk_below (g := gb191) (o := .cells #[.string a0_0, .int .i64 a0_1, .string a0_2, .int .i64 a0_3, .bool false, .bool a0_5, .slice A0_6 l0_6.length c0_6] 26 (0, 0)) (by (with_reducible repeat (first | refine blk_drewN ?_ _ | refine blk_drew ?_ | refine blk_alloc ?_ _)); exact BK191.out) hb)
            have n9_ := Aside0.mk (blk_below (g := gb197) (o := .cells #[.slice Ao21 t194.length co21] 31 (0, 0)) (by (with_reducible repeat (first | refine blk_drewN ?_ _ | refine blk_drew ?_ | refine blk_alloc ?_ _)); exact BK197.out) hb)
            have n10_ := Aside0.mk (blk_below (g := gb201) (o := .cells #[.string t198, .int .i64 t199] 23 (0, 0)) (by (with_reducible repeat (first | refine blk_drewN ?_ _ | refine blk_drew ?_ | refine blk_alloc ?_ _)); exact BK201.out) hb)
            have n11_ := Aside0.mk (blk_below (g := gb214) (o := .cells #[.string t204, .int .i64 t205, .string t206, .int .i64 t207, .bool t208, .bool t209, .slice Ao116 t210.length co116] 26 (0, 0)) (by (with_reducible repeat (first | refine blk_drewN ?_ _ | refine blk_drew ?_ | refine blk_alloc ?_ _)); exact BK214.out) hb)
            have n12_ := Aside0.mk (blk_below (g := gb219) (o := .cells #[.slice Ao121 t215.length co121] 31 (0, 0)) (by (with_reducible repeat (first | refine blk_drewN ?_ _ | refine blk_drew ?_ | refine blk_alloc ?_ _)); exact BK219.out) hb)
            have n13_ := Aside0.mk (blk_below (g := gb229) (o := .cells #[.string t220, .int .i64 t221, .string t222, .int .i64 t223, .bool t224, .bool t225, .slice Ao136 t226.length co136] 26 (0, 0)) (by (with_reducible repeat (first | refine blk_drewN ?_ _ | refine blk_drew ?_ | refine blk_alloc ?_ _)); exact BK229.out) hb)
            have n14_ := Aside0.mk (below_step (by repeat (first | (with_reducible first | exact HB.out | apply below_alloc | apply pw_below_drewN | apply below_drew1 | refine below_set ?_ GE191.out | refine below_set ?_ GE197.out | refine below_set ?_ GE201.out | refine below_set ?_ GE214.out | refine below_set ?_ GE219.out | refine below_set ?_ GE229.out) | exact HB.out)) hb)
            clear HO_198000
            clear HO212
            clear HO217
            clear HO228
            clear HO232
            clear HO236
            clear HO239
            clear BK191
            clear BK197
            clear BK201
            clear BK214
            clear BK219
            clear BK229
            clear HB
            have HO_198000 := n0_
            have HO212 := n1_
            have HO217 := n2_
            have HO228 := n3_
            have HO232 := n4_
            have HO236 := n5_
            have HO239 := n6_
            have HO243 := n7_
            have BK191 := n8_
            have BK197 := n9_
            have BK201 := n10_
            have BK214 := n11_
            have BK219 := n12_
            have BK229 := n13_
            have HB := n14_
            clear n0_ n1_ n2_ n3_ n4_ n5_ n6_ n7_ n8_ n9_ n10_ n11_ n12_ n13_ n14_
            (try clear hb)
            (try clear hb2)
            (try clear hk)
            (try clear hi)
            (try clear ho0)
            obtain ⟨Ao148, co148, eo148⟩ := Kd.R_slice HO243.out
            (first | subst eo148 | (injection eo148 with f1_ f2_ f3_; have f4_ := f1_.symm; have f5_ := f3_.symm; clear f1_ f2_ f3_; subst f4_; subst f5_))
            refine hK.out _ _ ⟨(blk_cell BK214.out 0).trans rfl, (blk_cell BK214.out 1).trans rfl, (blk_cell BK214.out 2).trans rfl, (blk_cell BK214.out 3).trans rfl, (blk_cell BK214.out 4).trans rfl, (blk_cell BK214.out 5).trans rfl, (blk_cell BK214.out 6).trans rfl, (blk_cell BK219.out 0).trans rfl, (blk_cell BK229.out 0).trans rfl, (blk_cell BK229.out 1).trans rfl, (blk_cell BK229.out 2).trans rfl, (blk_cell BK229.out 3).trans rfl, (blk_cell BK229.out 4).trans rfl, (blk_cell BK229.out 5).trans rfl, (blk_cell BK229.out 6).trans rfl, (blk_cell BK197.out 0).trans rfl, (blk_cell BK191.out 0).trans rfl, (blk_cell BK191.out 1).trans rfl, (blk_cell BK191.out 2).trans rfl, (blk_cell BK191.out 3).trans rfl, (blk_cell BK191.out 4).trans rfl, (blk_cell BK191.out 5).trans rfl, (blk_cell BK191.out 6).trans rfl⟩ (fun hHeld => ?_)
            clear hK K
            refine norm_ (a' := ?_) ?_ ?_
            rotate_left
            ·show Act.put _ (some 81) _ = _
             simp only [Act.put, List.setIfInBounds_toArray, List.set_cons_zero, List.set_cons_succ, i64_w, i32_w]
             rfl
            refine one_ (i := 20) (N := some 83) #[true, true, true, true, true, true, true, true, true, true, true, true, true, true, true, true, true, true, true, true, true, false, false, false, false, false, false, false, false, false, false, false, false, false, false, false, false, false, false, false, false, false, false, false, false, false, false] rfl rfl (one_of HT_.out (by kernel_rfl)) (by decide) (fun K hK => ?_)
            refine goes_ Tryd.func23 (by kernel_rfl) rfl #[.agg #[.slice Ao148 t241.length co148], .agg #[.slice Ao21 t194.length co21]] (by rfl) rfl rfl (by (try simp only [List.map_toArray, List.map_cons, List.map_nil]); first | done | rfl | (simp only [List.length_drop, List.length_take]; rfl)) ?_
            with_reducible refine (squelchref05_Same.calls kj12 _ _ t241 _ _ t194 true _ ?side1 ?side2 ?side3 ?side4 A54.out).mono ?_
            (case side1 => repeat (first | exact (Kd.R_reads' HO243.out).2.2 | (with_reducible refine Kd.C_alloc ?_ _) | (with_reducible refine Kd.C_drewN ?_ _) | (with_reducible refine Kd.C_drew ?_)))
            (case side2 => exact (Kd.R_reads' HO243.out).2.1)
            (case side3 => repeat (first | exact (Kd.R_reads' HO_198000.out).2.2 | (with_reducible refine Kd.C_alloc ?_ _) | (with_reducible refine Kd.C_drewN ?_ _) | (with_reducible refine Kd.C_drew ?_)))
            (case side4 => exact (Kd.R_reads' HO_198000.out).2.1)
            rintro e w149 ⟨rfl, hb⟩
            refine ⟨_, rfl, ?_⟩
            have n0_ := Aside0.mk (Kd.R_below (by (with_reducible repeat (first | apply Kd.R_alloc | apply Kd.R_drewN | apply Kd.R_drew)); exact HO_198000.out) hb)
            have n1_ := Aside0.mk (Kd.R_below (by (with_reducible repeat (first | apply Kd.R_alloc | apply Kd.R_drewN | apply Kd.R_drew)); exact HO212.out) hb)
            have n2_ := Aside0.mk (Kd.R_below (by (with_reducible repeat (first | apply Kd.R_alloc | apply Kd.R_drewN | apply Kd.R_drew)); exact HO217.out) hb)
            have n3_ := Aside0.mk (Kd.R_below (by (with_reducible repeat (first | apply Kd.R_alloc | apply Kd.R_drewN | apply Kd.R_drew)); exact HO228.out) hb)
            have n4_ := Aside0.mk (Kd.R_below (by (with_reducible repeat (first | apply Kd.R_alloc | apply Kd.R_drewN | apply Kd.R_drew)); exact HO232.out) hb)
            have n5_ := Aside0.mk (Kd.R_below (by (with_reducible repeat (first | apply Kd.R_alloc | apply Kd.R_drewN | apply Kd.R_drew)); exact HO236.out) hb)
            have n6_ := Aside0.mk (Kd.R_below (by (with_reducible repeat (first | apply Kd.R_alloc | apply Kd.R_drewN | apply Kd.R_drew)); exact HO239.out) hb)
            have n7_ := Aside0.mk (Kd.R_below (by (with_reducible repeat (first | apply Kd.R_alloc | apply Kd.R_drewN | apply Kd.R_drew)); exact HO243.out) hb)
            have n8_ := Aside0.mk (blk_below (g := gb191) (o := .cells #[.string a0_0, .int .i64 a0_1, .string a0_2, .int .i64 a0_3, .bool false, .bool a0_5, .slice A0_6 l0_6.length c0_6] 26 (0, 0)) (by (with_reducible repeat (first | refine blk_drewN ?_ _ | refine blk_drew ?_ | refine blk_alloc ?_ _)); exact BK191.out) hb)
            have n9_ := Aside0.mk (blk_below (g := gb197) (o := .cells #[.slice Ao21 t194.length co21] 31 (0, 0)) (by (with_reducible repeat (first | refine blk_drewN ?_ _ | refine blk_drew ?_ | refine blk_alloc ?_ _)); exact BK197.out) hb)
            have n10_ := Aside0.mk (blk_below (g := gb201) (o := .cells #[.string t198, .int .i64 t199] 23 (0, 0)) (by (with_reducible repeat (first | refine blk_drewN ?_ _ | refine blk_drew ?_ | refine blk_alloc ?_ _)); exact BK201.out) hb)
            have n11_ := Aside0.mk (blk_below (g := gb214) (o := .cells #[.string t204, .int .i64 t205, .string t206, .int .i64 t207, .bool t208, .bool t209, .slice Ao116 t210.length co116] 26 (0, 0)) (by (with_reducible repeat (first | refine blk_drewN ?_ _ | refine blk_drew ?_ | refine blk_alloc ?_ _)); exact BK214.out) hb)
            have n12_ := Aside0.mk (blk_below (g := gb219) (o := .cells #[.slice Ao121 t215.length co121] 31 (0, 0)) (by (with_reducible repeat (first | refine blk_drewN ?_ _ | refine blk_drew ?_ | refine blk_alloc ?_ _)); exact BK219.out) hb)
            have n13_ := Aside0.mk (blk_below (g := gb229) (o := .cells #[.string t220, .int .i64 t221, .string t222, .int .i64 t223, .bool t224, .bool t225, .slice Ao136 t226.length co136] 26 (0, 0)) (by (with_reducible repeat (first | refine blk_drewN ?_ _ | refine blk_drew ?_ | refine blk_alloc ?_ _)); exact BK229.out) hb)
            have n14_ := Aside0.mk (below_step (by repeat (first | (with_reducible first | exact HB.out | apply below_alloc | apply pw_below_drewN | apply below_drew1 | refine below_set ?_ GE191.out | refine below_set ?_ GE197.out | refine below_set ?_ GE201.out | refine below_set ?_ GE214.out | refine below_set ?_ GE219.out | refine below_set ?_ GE229.out) | exact HB.out)) hb)
            clear HO_198000
            clear HO212
            clear HO217
            clear HO228
            clear HO232
            clear HO236
            clear HO239
            clear HO243
            clear BK191
            clear BK197
            clear BK201
            clear BK214
            clear BK219
            clear BK229
            clear HB
            have HO_198000 := n0_
            have HO212 := n1_
            have HO217 := n2_
            have HO228 := n3_
            have HO232 := n4_
            have HO236 := n5_
            have HO239 := n6_
            have HO243 := n7_
            have BK191 := n8_
            have BK197 := n9_
            have BK201 := n10_
            have BK214 := n11_
            have BK219 := n12_
            have BK229 := n13_
            have HB := n14_
            clear n0_ n1_ n2_ n3_ n4_ n5_ n6_ n7_ n8_ n9_ n10_ n11_ n12_ n13_ n14_
            (try clear hb)
            (try clear hb2)
            (try clear hk)
            (try clear hi)
            refine hK.out _ _ ⟨(blk_cell BK214.out 0).trans rfl, (blk_cell BK214.out 1).trans rfl, (blk_cell BK214.out 2).trans rfl, (blk_cell BK214.out 3).trans rfl, (blk_cell BK214.out 4).trans rfl, (blk_cell BK214.out 5).trans rfl, (blk_cell BK214.out 6).trans rfl, (blk_cell BK219.out 0).trans rfl, (blk_cell BK229.out 0).trans rfl, (blk_cell BK229.out 1).trans rfl, (blk_cell BK229.out 2).trans rfl, (blk_cell BK229.out 3).trans rfl, (blk_cell BK229.out 4).trans rfl, (blk_cell BK229.out 5).trans rfl, (blk_cell BK229.out 6).trans rfl, (blk_cell BK197.out 0).trans rfl, (blk_cell BK191.out 0).trans rfl, (blk_cell BK191.out 1).trans rfl, (blk_cell BK191.out 2).trans rfl, (blk_cell BK191.out 3).trans rfl, (blk_cell BK191.out 4).trans rfl, (blk_cell BK191.out 5).trans rfl, (blk_cell BK191.out 6).trans rfl⟩ (fun hHeld => ?_)
            clear hK K
            refine norm_ (a' := ?_) ?_ ?_
            rotate_left
            ·show Act.put _ (some 83) _ = _
             simp only [Act.put, List.setIfInBounds_toArray, List.set_cons_zero, List.set_cons_succ, i64_w, i32_w]
             rfl
            refine pure_ (i := 21) (N := some 84) (v := ?_) (a' := ?_) #[true, true, true, true, true, true, true, true, true, true, true, true, true, true, true, true, true, true, true, true, true, true, false, false, false, false, false, false, false, false, false, false, false, false, false, false, false, false, false, false, false, false, false, false, false, false, false] rfl rfl (any_of HT_.out (by kernel_rfl)) (fun _ _ _ h => h) (Or.inl ⟨by rfl, ?_⟩) ?_ ?_
            rotate_left
            ·intro w'
             go_simp
             with_reducible rfl
            rotate_left
            ·simp only [Act.put, List.setIfInBounds_toArray, List.set_cons_zero, List.set_cons_succ, i64_w, i32_w]
             rfl
            refine pure_ (i := 22) (N := some 85) (v := ?_) (a' := ?_) #[true, true, true, true, true, true, true, true, true, true, true, true, true, true, true, true, true, true, true, true, true, true, true, false, false, false, false, false, false, false, false, false, false, false, false, false, false, false, false, false, false, false, false, false, false, false, false] rfl rfl (any_of HT_.out (by kernel_rfl)) (fun _ _ _ h => h) (Or.inl ⟨by rfl, ?_⟩) ?_ ?_
            rotate_left
            ·intro w'
             go_simp
             with_reducible rfl
            rotate_left
            ·simp only [Act.put, List.setIfInBounds_toArray, List.set_cons_zero, List.set_cons_succ, i64_w, i32_w]
             rfl
            refine pure_ (i := 25) (N := some 88) (v := ?_) (a' := ?_) #[true, true, true, true, true, true, true, true, true, true, true, true, true, true, true, true, true, true, true, true, true, true, true, false, false, true, false, false, false, false, false, false, false, false, false, false, false, false, false, false, false, false, false, false, false, false, false] rfl rfl (any_of HT_.out (by kernel_rfl)) (fun _ _ _ h => h) (Or.inl ⟨by rfl, ?_⟩) ?_ ?_
            rotate_left
            ·intro w'
             go_simp
             with_reducible rfl
            rotate_left
            ·simp only [Act.put, List.setIfInBounds_toArray, List.set_cons_zero, List.set_cons_succ, i64_w, i32_w]
             rfl
            refine take_ (i := 23) (N := some 86) (v := ?_) (a' := ?_) #[true, true, true, true, true, true, true, true, true, true, true, true, true, true, true, true, true, true, true, true, true, true, true, true, false, true, false, false, false, false, false, false, false, false, false, false, false, false, false, false, false, false, false, false, false, false, false] rfl rfl (take_ofW HT_.out HW_.out (by kernel_rfl)) (fun _ _ _ h => h) (Or.inl ⟨by rfl, ?_⟩) hHeld ?_ ?_
            rotate_left
            ·rintro w' ⟨s0, s1, s2, s3, s4, s5, s6, s7, s8, s9, s10, s11, s12, s13, s14, s15, s16, s17, s18, s19, s20, s21, s22⟩
             go_simp
             with_reducible rfl
            rotate_left
            ·simp only [Act.put, List.setIfInBounds_toArray, List.set_cons_zero, List.set_cons_succ, i64_w, i32_w]
             rfl
            refine take_ (i := 26) (N := some 89) (v := ?_) (a' := ?_) #[true, true, true, true, true, true, true, true, true, true, true, true, true, true, true, true, true, true, true, true, true, true, true, true, false, true, true, false, false, false, false, false, false, false, false, false, false, false, false, false, false, false, false, false, false, false, false] rfl rfl (take_ofW HT_.out HW_.out (by kernel_rfl)) (fun _ _ _ h => h) (Or.inl ⟨by rfl, ?_⟩) hHeld ?_ ?_
            rotate_left
            ·rintro w' ⟨s0, s1, s2, s3, s4, s5, s6, s7, s8, s9, s10, s11, s12, s13, s14, s15, s16, s17, s18, s19, s20, s21, s22⟩
             go_simp
             with_reducible rfl
            rotate_left
            ·simp only [Act.put, List.setIfInBounds_toArray, List.set_cons_zero, List.set_cons_succ, i64_w, i32_w]
             rfl
            refine one_ (i := 24) (N := some 87) #[true, true, true, true, true, true, true, true, true, true, true, true, true, true, true, true, true, true, true, true, true, true, true, true, true, true, true, false, false, false, false, false, false, false, false, false, false, false, false, false, false, false, false, false, false, false, false] rfl rfl (one_of HT_.out (by kernel_rfl)) (by decide) (fun K hK => ?_)
            refine goes_ Tryd.func25 (by kernel_rfl) rfl #[.agg #[.string a0_0, .int .i64 a0_1, .string a0_2, .int .i64 a0_3, .bool false, .bool a0_5, .slice A0_6 l0_6.length c0_6]] (by rfl) rfl rfl (by (try simp only [List.map_toArray, List.map_cons, List.map_nil]); first | done | rfl | (simp only [List.length_drop, List.length_take]; rfl)) ?_
            with_reducible refine (path_Command.calls a0_0 a0_1 a0_2 a0_3 false a0_5 _ _ l0_6 t245 _ ?side1 ?side2 A56.out).mono ?_
            (case side1 => repeat (first | exact (Kd.C_below HR0_6.out HB.out) | (with_reducible refine Kd.C_alloc ?_ _) | (with_reducible refine Kd.C_drewN ?_ _) | (with_reducible refine Kd.C_drew ?_)))
            (case side2 => exact HC0_6.out)
            rintro e w150 ⟨rfl, hb⟩
            refine ⟨_, rfl, ?_⟩
            have n0_ := Aside0.mk (Kd.R_below (by (with_reducible repeat (first | apply Kd.R_alloc | apply Kd.R_drewN | apply Kd.R_drew)); exact HO_198000.out) hb)
            have n1_ := Aside0.mk (Kd.R_below (by (with_reducible repeat (first | apply Kd.R_alloc | apply Kd.R_drewN | apply Kd.R_drew)); exact HO212.out) hb)
            have n2_ := Aside0.mk (Kd.R_below (by (with_reducible repeat (first | apply Kd.R_alloc | apply Kd.R_drewN | apply Kd.R_drew)); exact HO217.out) hb)
            have n3_ := Aside0.mk (Kd.R_below (by (with_reducible repeat (first | apply Kd.R_alloc | apply Kd.R_drewN | apply Kd.R_drew)); exact HO228.out) hb)
            have n4_ := Aside0.mk (Kd.R_below (by (with_reducible repeat (first | apply Kd.R_alloc | apply Kd.R_drewN | apply Kd.R_drew)); exact HO232.out) hb)
            have n5_ := Aside0.mk (Kd.R_below (by (with_reducible repeat (first | apply Kd.R_alloc | apply Kd.R_drewN | apply Kd.R_drew)); exact HO236.out) hb)
            have n6_ := Aside0.mk (Kd.R_below (by (with_reducible repeat (first | apply Kd.R_alloc | apply Kd.R_drewN | apply Kd.R_drew)); exact HO239.out) hb)
            have n7_ := Aside0.mk (Kd.R_below (by (with_reducible repeat (first | apply Kd.R_alloc | apply Kd.R_drewN | apply Kd.R_drew)); exact HO243.out) hb)
            have n8_ := Aside0.mk (blk_below (g := gb191) (o := .cells #[.string a0_0, .int .i64 a0_1, .string a0_2, .int .i64 a0_3, .bool false, .bool a0_5, .slice A0_6 l0_6.length c0_6] 26 (0, 0)) (by (with_reducible repeat (first | refine blk_drewN ?_ _ | refine blk_drew ?_ | refine blk_alloc ?_ _)); exact BK191.out) hb)
            have n9_ := Aside0.mk (blk_below (g := gb197) (o := .cells #[.slice Ao21 t194.length co21] 31 (0, 0)) (by (with_reducible repeat (first | refine blk_drewN ?_ _ | refine blk_drew ?_ | refine blk_alloc ?_ _)); exact BK197.out) hb)
            have n10_ := Aside0.mk (blk_below (g := gb201) (o := .cells #[.string t198, .int .i64 t199] 23 (0, 0)) (by (with_reducible repeat (first | refine blk_drewN ?_ _ | refine blk_drew ?_ | refine blk_alloc ?_ _)); exact BK201.out) hb)
            have n11_ := Aside0.mk (blk_below (g := gb214) (o := .cells #[.string t204, .int .i64 t205, .string t206, .int .i64 t207, .bool t208, .bool t209, .slice Ao116 t210.length co116] 26 (0, 0)) (by (with_reducible repeat (first | refine blk_drewN ?_ _ | refine blk_drew ?_ | refine blk_alloc ?_ _)); exact BK214.out) hb)
            have n12_ := Aside0.mk (blk_below (g := gb219) (o := .cells #[.slice Ao121 t215.length co121] 31 (0, 0)) (by (with_reducible repeat (first | refine blk_drewN ?_ _ | refine blk_drew ?_ | refine blk_alloc ?_ _)); exact BK219.out) hb)
            have n13_ := Aside0.mk (blk_below (g := gb229) (o := .cells #[.string t220, .int .i64 t221, .string t222, .int .i64 t223, .bool t224, .bool t225, .slice Ao136 t226.length co136] 26 (0, 0)) (by (with_reducible repeat (first | refine blk_drewN ?_ _ | refine blk_drew ?_ | refine blk_alloc ?_ _)); exact BK229.out) hb)
            have n14_ := Aside0.mk (below_step (by repeat (first | (with_reducible first | exact HB.out | apply below_alloc | apply pw_below_drewN | apply below_drew1 | refine below_set ?_ GE191.out | refine below_set ?_ GE197.out | refine below_set ?_ GE201.out | refine below_set ?_ GE214.out | refine below_set ?_ GE219.out | refine below_set ?_ GE229.out) | exact HB.out)) hb)
            clear HO_198000
            clear HO212
            clear HO217
            clear HO228
            clear HO232
            clear HO236
            clear HO239
            clear HO243
            clear BK191
            clear BK197
            clear BK201
            clear BK214
            clear BK219
            clear BK229
            clear HB
            have HO_198000 := n0_
            have HO212 := n1_
            have HO217 := n2_
            have HO228 := n3_
            have HO232 := n4_
            have HO236 := n5_
            have HO239 := n6_
            have HO243 := n7_
            have BK191 := n8_
            have BK197 := n9_
            have BK201 := n10_
            have BK214 := n11_
            have BK219 := n12_
            have BK229 := n13_
            have HB := n14_
            clear n0_ n1_ n2_ n3_ n4_ n5_ n6_ n7_ n8_ n9_ n10_ n11_ n12_ n13_ n14_
            (try clear hb)
            (try clear hb2)
            (try clear hk)
            (try clear hi)
            refine hK.out _ _ ⟨(blk_cell BK214.out 0).trans rfl, (blk_cell BK214.out 1).trans rfl, (blk_cell BK214.out 2).trans rfl, (blk_cell BK214.out 3).trans rfl, (blk_cell BK214.out 4).trans rfl, (blk_cell BK214.out 5).trans rfl, (blk_cell BK214.out 6).trans rfl, (blk_cell BK219.out 0).trans rfl, (blk_cell BK229.out 0).trans rfl, (blk_cell BK229.out 1).trans rfl, (blk_cell BK229.out 2).trans rfl, (blk_cell BK229.out 3).trans rfl, (blk_cell BK229.out 4).trans rfl, (blk_cell BK229.out 5).trans rfl, (blk_cell BK229.out 6).trans rfl, (blk_cell BK197.out 0).trans rfl, (blk_cell BK191.out 0).trans rfl, (blk_cell BK191.out 1).trans rfl, (blk_cell BK191.out 2).trans rfl, (blk_cell BK191.out 3).trans rfl, (blk_cell BK191.out 4).trans rfl, (blk_cell BK191.out 5).trans rfl, (blk_cell BK191.out 6).trans rfl⟩ (fun hHeld => ?_)
            clear hK K
            refine norm_ (a' := ?_) ?_ ?_
            rotate_left
            ·show Act.put _ (some 87) _ = _
             simp only [Act.put, List.setIfInBounds_toArray, List.set_cons_zero, List.set_cons_succ, i64_w, i32_w]
             rfl
            refine pure_ (i := 27) (N := some 90) (v := ?_) (a' := ?_) #[true, true, true, true, true, true, true, true, true, true, true, true, true, true, true, true, true, true, true, true, true, true, true, true, true, true, true, true, false, false, false, false, false, false, false, false, false, false, false, false, false, false, false, false, false, false, false] rfl rfl (any_of HT_.out (by kernel_rfl)) (fun _ _ _ h => h) (Or.inl ⟨by rfl, ?_⟩) ?_ ?_
            rotate_left
            ·intro w'
             go_simp
             with_reducible rfl
            rotate_left
            ·simp only [Act.put, List.setIfInBounds_toArray, List.set_cons_zero, List.set_cons_succ, i64_w, i32_w]
             rfl
            refine pure_ (i := 28) (N := some 91) (v := undef) (a' := ?_) #[true, true, true, true, true, true, true, true, true, true, true, true, true, true, true, true, true, true, true, true, true, true, true, true, true, true, true, true, true, false, false, false, false, false, false, false, false, false, false, false, false, false, false, false, false, false, false] rfl rfl (any_of HT_.out (by kernel_rfl)) (fun _ _ _ h => h) (Or.inr ⟨by rfl, rfl⟩) ?_ ?_
            rotate_left
            ·simp only [Act.put, List.setIfInBounds_toArray, List.set_cons_zero, List.set_cons_succ, i64_w, i32_w]
             rfl
            refine pure_ (i := 29) (N := some 92) (v := undef) (a' := ?_) #[true, true, true, true, true, true, true, true, true, true, true, true, true, true, true, true, true, true, true, true, true, true, true, true, true, true, true, true, true, true, false, false, false, false, false, false, false, false, false, false, false, false, false, false, false, false, false] rfl rfl (any_of HT_.out (by kernel_rfl)) (fun _ _ _ h => h) (Or.inr ⟨by rfl, rfl⟩) ?_ ?_
            rotate_left
            ·simp only [Act.put, List.setIfInBounds_toArray, List.set_cons_zero, List.set_cons_succ, i64_w, i32_w]
             rfl
            refine pure_ (i := 30) (N := some 93) (v := undef) (a' := ?_) #[true, true, true, true, true, true, true, true, true, true, true, true, true, true, true, true, true, true, true, true, true, true, true, true, true, true, true, true, true, true, true, false, false, false, false, false, false, false, false, false, false, false, false, false, false, false, false] rfl rfl (any_of HT_.out (by kernel_rfl)) (fun _ _ _ h => h) (Or.inr ⟨by rfl, rfl⟩) ?_ ?_
            rotate_left
            ·simp only [Act.put, List.setIfInBounds_toArray, List.set_cons_zero, List.set_cons_succ, i64_w, i32_w]
             rfl
            refine pure_ (i := 31) (N := some 94) (v := ?_) (a' := ?_) #[true, true, true, true, true, true, true, true, true, true, true, true, true, true, true, true, true, true, true, true, true, true, true, true, true, true, true, true, true, true, true, true, false, false, false, false, false, false, false, false, false, false, false, false, false, false, false] rfl rfl (any_of HT_.out (by kernel_rfl)) (fun _ _ _ h => h) (Or.inl ⟨by rfl, ?_⟩) ?_ ?_
            rotate_left
            ·intro w'
             go_simp
             with_reducible rfl
            rotate_left
            ·simp only [Act.put, List.setIfInBounds_toArray, List.set_cons_zero, List.set_cons_succ, i64_w, i32_w]
             rfl
            refine pure_ (i := 32) (N := some 95) (v := ?_) (a' := ?_) #[true, true, true, true, true, true, true, true, true, true, true, true, true, true, true, true, true, true, true, true, true, true, true, true, true, true, true, true, true, true, true, true, true, false, false, false, false, false, false, false, false, false, false, false, false, false, false] rfl rfl (any_of HT_.out (by kernel_rfl)) (fun _ _ _ h => h) (Or.inl ⟨by rfl, ?_⟩) ?_ ?_
            rotate_left
            ·intro w'
             go_simp
             with_reducible rfl
            rotate_left
            ·simp only [Act.put, List.setIfInBounds_toArray, List.set_cons_zero, List.set_cons_succ, i64_w, i32_w]
             rfl
            refine pure_ (i := 33) (N := some 96) (v := ?_) (a' := ?_) #[true, true, true, true, true, true, true, true, true, true, true, true, true, true, true, true, true, true, true, true, true, true, true, true, true, true, true, true, true, true, true, true, true, true, false, false, false, false, false, false, false, false, false, false, false, false, false] rfl rfl (any_of HT_.out (by kernel_rfl)) (fun _ _ _ h => h) (Or.inl ⟨by rfl, ?_⟩) ?_ ?_
            rotate_left
            ·intro w'
             go_simp
             with_reducible rfl
            rotate_left
            ·simp only [Act.put, List.setIfInBounds_toArray, List.set_cons_zero, List.set_cons_succ, i64_w, i32_w]
             rfl
            refine pure_ (i := 34) (N := some 97) (v := ?_) (a' := ?_) #[true, true, true, true, true, true, true, true, true, true, true, true, true, true, true, true, true, true, true, true, true, true, true, true, true, true, true, true, true, true, true, true, true, true, true, false, false, false, false, false, false, false, false, false, false, false, false] rfl rfl (any_of HT_.out (by kernel_rfl)) (fun _ _ _ h => h) (Or.inl ⟨by rfl, ?_⟩) ?_ ?_
            rotate_left
            ·intro w'
             go_simp
             with_reducible rfl
            rotate_left
            ·simp only [Act.put, List.setIfInBounds_toArray, List.set_cons_zero, List.set_cons_succ, i64_w, i32_w]
             rfl
            refine pure_ (i := 37) (N := some 100) (v := ?_) (a' := ?_) #[true, true, true, true, true, true, true, true, true, true, true, true, true, true, true, true, true, true, true, true, true, true, true, true, true, true, true, true, true, true, true, true, true, true, true, false, false, true, false, false, false, false, false, false, false, false, false] rfl rfl (any_of HT_.out (by kernel_rfl)) (fun _ _ _ h => h) (Or.inl ⟨by rfl, ?_⟩) ?_ ?_
            rotate_left
            ·intro w'
             go_simp
             with_reducible rfl
            rotate_left
            ·simp only [Act.put, List.setIfInBounds_toArray, List.set_cons_zero, List.set_cons_succ, i64_w, i32_w]
             rfl
            refine take_ (i := 35) (N := some 98) (v := ?_) (a' := ?_) #[true, true, true, true, true, true, true, true, true, true, true, true, true, true, true, true, true, true, true, true, true, true, true, true, true, true, true, true, true, true, true, true, true, true, true, true, false, true, false, false, false, false, false, false, false, false, false] rfl rfl (take_ofW HT_.out HW_.out (by kernel_rfl)) (fun _ _ _ h => h) (Or.inl ⟨by rfl, ?_⟩) hHeld ?_ ?_
            rotate_left
            ·rintro w' ⟨s0, s1, s2, s3, s4, s5, s6, s7, s8, s9, s10, s11, s12, s13, s14, s15, s16, s17, s18, s19, s20, s21, s22⟩
             go_simp
             with_reducible rfl
            rotate_left
            ·simp only [Act.put, List.setIfInBounds_toArray, List.set_cons_zero, List.set_cons_succ, i64_w, i32_w]
             rfl
            refine take_ (i := 38) (N := some 101) (v := ?_) (a' := ?_) #[true, true, true, true, true, true, true, true, true, true, true, true, true, true, true, true, true, true, true, true, true, true, true, true, true, true, true, true, true, true, true, true, true, true, true, true, false, true, true, false, false, false, false, false, false, false, false] rfl rfl (take_ofW HT_.out HW_.out (by kernel_rfl)) (fun _ _ _ h => h) (Or.inl ⟨by rfl, ?_⟩) hHeld ?_ ?_
            rotate_left
            ·rintro w' ⟨s0, s1, s2, s3, s4, s5, s6, s7, s8, s9, s10, s11, s12, s13, s14, s15, s16, s17, s18, s19, s20, s21, s22⟩
             go_simp
             with_reducible rfl
            rotate_left
            ·simp only [Act.put, List.setIfInBounds_toArray, List.set_cons_zero, List.set_cons_succ, i64_w, i32_w]
             rfl
            refine pure_ (i := 39) (N := some 102) (v := ?_) (a' := ?_) #[true, true, true, true, true, true, true, true, true, true, true, true, true, true, true, true, true, true, true, true, true, true, true, true, true, true, true, true, true, true, true, true, true, true, true, true, false, true, true, true, false, false, false, false, false, false, false] rfl rfl (any_of HT_.out (by kernel_rfl)) (fun _ _ _ h => h) (Or.inl ⟨by rfl, ?_⟩) ?_ ?_
            rotate_left
            ·intro w'
             go_simp
             with_reducible rfl
            rotate_left
            ·simp only [Act.put, List.setIfInBounds_toArray, List.set_cons_zero, List.set_cons_succ, i64_w, i32_w]
             rfl
            refine one_ (i := 36) (N := some 99) #[true, true, true, true, true, true, true, true, true, true, true, true, true, true, true, true, true, true, true, true, true, true, true, true, true, true, true, true, true, true, true, true, true, true, true, true, true, true, true, true, false, false, false, false, false, false, false] rfl rfl (one_of HT_.out (by kernel_rfl)) (by decide) (fun K hK => ?_)
            refine goes_ Tryd.func26 (by kernel_rfl) rfl #[.agg #[.string a0_0, .int .i64 a0_1, .string a0_2, .int .i64 a0_3, .bool false, .bool a0_5, .slice A0_6 l0_6.length c0_6]] (by rfl) rfl rfl (by (try simp only [List.map_toArray, List.map_cons, List.map_nil]); first | done | rfl | (simp only [List.length_drop, List.length_take]; rfl)) ?_
            with_reducible refine (path_Response.calls a0_0 a0_1 a0_2 a0_3 false a0_5 _ _ l0_6 t247 _ ?side1 ?side2 A106.out).mono ?_
            (case side1 => repeat (first | exact (Kd.C_below HR0_6.out HB.out) | (with_reducible refine Kd.C_alloc ?_ _) | (with_reducible refine Kd.C_drewN ?_ _) | (with_reducible refine Kd.C_drew ?_)))
            (case side2 => exact HC0_6.out)
            rintro e w151 ⟨rfl, hb⟩
            refine ⟨_, rfl, ?_⟩
            have n0_ := Aside0.mk (Kd.R_below (by (with_reducible repeat (first | apply Kd.R_alloc | apply Kd.R_drewN | apply Kd.R_drew)); exact HO_198000.out) hb)
            have n1_ := Aside0.mk (Kd.R_below (by (with_reducible repeat (first | apply Kd.R_alloc | apply Kd.R_drewN | apply Kd.R_drew)); exact HO212.out) hb)
            have n2_ := Aside0.mk (Kd.R_below (by (with_reducible repeat (first | apply Kd.R_alloc | apply Kd.R_drewN | apply Kd.R_drew)); exact HO217.out) hb)
            have n3_ := Aside0.mk (Kd.R_below (by (with_reducible repeat (first | apply Kd.R_alloc | apply Kd.R_drewN | apply Kd.R_drew)); exact HO228.out) hb)
            have n4_ := Aside0.mk (Kd.R_below (by (with_reducible repeat (first | apply Kd.R_alloc | apply Kd.R_drewN | apply Kd.R_drew)); exact HO232.out) hb)
            have n5_ := Aside0.mk (Kd.R_below (by (with_reducible repeat (first | apply Kd.R_alloc | apply Kd.R_drewN | apply Kd.R_drew)); exact HO236.out) hb)
            have n6_ := Aside0.mk (Kd.R_below (by (with_reducible repeat (first | apply Kd.R_alloc | apply Kd.R_drewN | apply Kd.R_drew)); exact HO239.out) hb)
            have n7_ := Aside0.mk (Kd.R_below (by (with_reducible repeat (first | apply Kd.R_alloc | apply Kd.R_drewN | apply Kd.R_drew)); exact HO243.out) hb)
            have n8_ := Aside0.mk (blk_below (g := gb191) (o := .cells #[.string a0_0, .int .i64 a0_1, .string a0_2, .int .i64 a0_3, .bool false, .bool a0_5, .slice A0_6 l0_6.length c0_6] 26 (0, 0)) (by (with_reducible repeat (first | refine blk_drewN ?_ _ | refine blk_drew ?_ | refine blk_alloc ?_ _)); exact BK191.out) hb)
            have n9_ := Aside0.mk (blk_below (g := gb197) (o := .cells #[.slice Ao21 t194.length co21] 31 (0, 0)) (by (with_reducible repeat (first | refine blk_drewN ?_ _ | refine blk_drew ?_ | refine blk_alloc ?_ _)); exact BK197.out) hb)
            have n10_ := Aside0.mk (blk_below (g := gb201) (o := .cells #[.string t198, .int .i64 t199] 23 (0, 0)) (by (with_reducible repeat (first | refine blk_drewN ?_ _ | refine blk_drew ?_ | refine blk_alloc ?_ _)); exact BK201.out) hb)
            have n11_ := Aside0.mk (blk_below (g := gb214) (o := .cells #[.string t204, .int .i64 t205, .string t206, .int .i64 t207, .bool t208, .bool t209, .slice Ao116 t210.length co116] 26 (0, 0)) (by (with_reducible repeat (first | refine blk_drewN ?_ _ | refine blk_drew ?_ | refine blk_alloc ?_ _)); exact BK214.out) hb)
            have n12_ := Aside0.mk (blk_below (g := gb219) (o := .cells #[.slice Ao121 t215.length co121] 31 (0, 0)) (by (with_reducible repeat (first | refine blk_drewN ?_ _ | refine blk_drew ?_ | refine blk_alloc ?_ _)); exact BK219.out) hb)
            have n13_ := Aside0.mk (blk_below (g := gb229) (o := .cells #[.string t220, .int .i64 t221, .string t222, .int .i64 t223, .bool t224, .bool t225, .slice Ao136 t226.length co136] 26 (0, 0)) (by (with_reducible repeat (first | refine blk_drewN ?_ _ | refine blk_drew ?_ | refine blk_alloc ?_ _)); exact BK229.out) hb)
            have n14_ := Aside0.mk (below_step (by repeat (first | (with_reducible first | exact HB.out | apply below_alloc | apply pw_below_drewN | apply below_drew1 | refine below_set ?_ GE191.out | refine below_set ?_ GE197.out | refine below_set ?_ GE201.out | refine below_set ?_ GE214.out | refine below_set ?_ GE219.out | refine below_set ?_ GE229.out) | exact HB.out)) hb)
            clear HO_198000
            clear HO212
            clear HO217
            clear HO228
            clear HO232
            clear HO236
            clear HO239
            clear HO243
            clear BK191
            clear BK197
            clear BK201
            clear BK214
            clear BK219
            clear BK229
            clear HB
            have HO_198000 := n0_
            have HO212 := n1_
            have HO217 := n2_
            have HO228 := n3_
            have HO232 := n4_
            have HO236 := n5_
            have HO239 := n6_
            have HO243 := n7_
            have BK191 := n8_
            have BK197 := n9_
            have BK201 := n10_
            have BK214 := n11_
            have BK219 := n12_
            have BK229 := n13_
            have HB := n14_
            clear n0_ n1_ n2_ n3_ n4_ n5_ n6_ n7_ n8_ n9_ n10_ n11_ n12_ n13_ n14_
            (try clear hb)
            (try clear hb2)
            (try clear hk)
            (try clear hi)
            refine hK.out _ _ ⟨(blk_cell BK214.out 0).trans rfl, (blk_cell BK214.out 1).trans rfl, (blk_cell BK214.out 2).trans rfl, (blk_cell BK214.out 3).trans rfl, (blk_cell BK214.out 4).trans rfl, (blk_cell BK214.out 5).trans rfl, (blk_cell BK214.out 6).trans rfl, (blk_cell BK219.out 0).trans rfl, (blk_cell BK229.out 0).trans rfl, (blk_cell BK229.out 1).trans rfl, (blk_cell BK229.out 2).trans rfl, (blk_cell BK229.out 3).trans rfl, (blk_cell BK229.out 4).trans rfl, (blk_cell BK229.out 5).trans rfl, (blk_cell BK229.out 6).trans rfl, (blk_cell BK197.out 0).trans rfl, (blk_cell BK191.out 0).trans rfl, (blk_cell BK191.out 1).trans rfl, (blk_cell BK191.out 2).trans rfl, (blk_cell BK191.out 3).trans rfl, (blk_cell BK191.out 4).trans rfl, (blk_cell BK191.out 5).trans rfl, (blk_cell BK191.out 6).trans rfl⟩ (fun hHeld => ?_)
            clear hK K
            refine norm_ (a' := ?_) ?_ ?_
            rotate_left
            ·show Act.put _ (some 99) _ = _
             simp only [Act.put, List.setIfInBounds_toArray, List.set_cons_zero, List.set_cons_succ, i64_w, i32_w]
             rfl
            refine pure_ (i := 40) (N := some 103) (v := ?_) (a' := ?_) #[true, true, true, true, true, true, true, true, true, true, true, true, true, true, true, true, true, true, true, true, true, true, true, true, true, true, true, true, true, true, true, true, true, true, true, true, true, true, true, true, true, false, false, false, false, false, false] rfl rfl (any_of HT_.out (by kernel_rfl)) (fun _ _ _ h => h) (Or.inl ⟨by rfl, ?_⟩) ?_ ?_
            rotate_left
            ·intro w'
             go_simp
             with_reducible rfl
            rotate_left
            ·simp only [Act.put, List.setIfInBounds_toArray, List.set_cons_zero, List.set_cons_succ, i64_w, i32_w]
             rfl
            refine pure_ (i := 41) (N := some 104) (v := ?_) (a' := ?_) #[true, true, true, true, true, true, true, true, true, true, true, true, true, true, true, true, true, true, true, true, true, true, true, true, true, true, true, true, true, true, true, true, true, true, true, true, true, true, true, true, true, true, false, false, false, false, false] rfl rfl (any_of HT_.out (by kernel_rfl)) (fun _ _ _ h => h) (Or.inl ⟨by rfl, ?_⟩) ?_ ?_
            rotate_left
            ·intro w'
             go_simp
             with_reducible rfl
            rotate_left
            ·simp only [Act.put, List.setIfInBounds_toArray, List.set_cons_zero, List.set_cons_succ, i64_w, i32_w]
             rfl
            refine take_ (i := 42) (N := some 105) (v := ?_) (a' := ?_) #[true, true, true, true, true, true, true, true, true, true, true, true, true, true, true, true, true, true, true, true, true, true, true, true, true, true, true, true, true, true, true, true, true, true, true, true, true, true, true, true, true, true, true, false, false, false, false] rfl rfl (take_ofW HT_.out HW_.out (by kernel_rfl)) (fun _ _ _ h => h) (Or.inl ⟨by rfl, ?_⟩) hHeld ?_ ?_
            rotate_left
            ·rintro w' ⟨s0, s1, s2, s3, s4, s5, s6, s7, s8, s9, s10, s11, s12, s13, s14, s15, s16, s17, s18, s19, s20, s21, s22⟩
             go_simp
             with_reducible rfl
            rotate_left
            ·simp only [Act.put, List.setIfInBounds_toArray, List.set_cons_zero, List.set_cons_succ, i64_w, i32_w]
             rfl
            refine pure_ (i := 43) (N := some 106) (v := ?_) (a' := ?_) #[true, true, true, true, true, true, true, true, true, true, true, true, true, true, true, true, true, true, true, true, true, true, true, true, true, true, true, true, true, true, true, true, true, true, true, true, true, true, true, true, true, true, true, true, false, false, false] rfl rfl (any_of HT_.out (by kernel_rfl)) (fun _ _ _ h => h) (Or.inl ⟨by rfl, ?_⟩) ?_ ?_
            rotate_left
            ·intro w'
             go_simp
             with_reducible rfl
            rotate_left
            ·simp only [Act.put, List.setIfInBounds_toArray, List.set_cons_zero, List.set_cons_succ, i64_w, i32_w]
             rfl
            refine pure_ (i := 44) (N := some 107) (v := ?_) (a' := ?_) #[true, true, true, true, true, true, true, true, true, true, true, true, true, true, true, true, true, true, true, true, true, true, true, true, true, true, true, true, true, true, true, true, true, true, true, true, true, true, true, true, true, true, true, true, true, false, false] rfl rfl (any_of HT_.out (by kernel_rfl)) (fun _ _ _ h => h) (Or.inl ⟨by rfl, ?_⟩) ?_ ?_
            rotate_left
            ·intro w'
             go_simp
             with_reducible rfl
            rotate_left
            ·simp only [Act.put, List.setIfInBounds_toArray, List.set_cons_zero, List.set_cons_succ, i64_w, i32_w]
             rfl
            refine pure_ (i := 45) (N := some 108) (v := ?_) (a' := ?_) #[true, true, true, true, true, true, true, true, true, true, true, true, true, true, true, true, true, true, true, true, true, true, true, true, true, true, true, true, true, true, true, true, true, true, true, true, true, true, true, true, true, true, true, true, true, true, false] rfl rfl (any_of HT_.out (by kernel_rfl)) (fun _ _ _ h => h) (Or.inl ⟨by rfl, ?_⟩) ?_ ?_
            rotate_left
            ·intro w'
             go_simp
             with_reducible rfl
            rotate_left
            ·simp only [Act.put, List.setIfInBounds_toArray, List.set_cons_zero, List.set_cons_succ, i64_w, i32_w]
             rfl
            refine pure_ (i := 46) (N := some 2) (v := ?_) (a' := ?_) #[true, true, true, true, true, true, true, true, true, true, true, true, true, true, true, true, true, true, true, true, true, true, true, true, true, true, true, true, true, true, true, true, true, true, true, true, true, true, true, true, true, true, true, true, true, true, true] rfl rfl (any_of HT_.out (by kernel_rfl)) (fun _ _ _ h => h) (Or.inl ⟨by rfl, ?_⟩) ?_ ?_
            rotate_left
            ·intro w'
             go_simp
             with_reducible rfl
            rotate_left
            ·simp only [Act.put, List.setIfInBounds_toArray, List.set_cons_zero, List.set_cons_succ, i64_w, i32_w]
             rfl
            refine done_ (done_of HT_.out (by kernel_rfl)) ?_
            try go_wp2
            go_ret
            exact ⟨by first | rfl | (simp [errW_none, errW_some] <;> rfl) | (simp [*, errW_none, errW_some] <;> rfl), by repeat (first | (with_reducible first | exact HB.out | apply below_alloc | apply pw_below_drewN | apply below_drew1 | refine below_set ?_ GE191.out | refine below_set ?_ GE197.out | refine below_set ?_ GE201.out | refine below_set ?_ GE214.out | refine below_set ?_ GE219.out | refine below_set ?_ GE229.out) | exact HB.out)⟩
           ·rw [if_neg c105] at H
            have c105b0 : (t245 == false) = false := by simpa using c105
            (try (have c105b1 : decide (t245 = false) = false := by simpa using c105))
            (try (have c105b2 : (t245 == false) = false := by simpa using c105))
            (try (have c105b3 : ¬ (t245 = false) := by simpa using c105))
            clear c105
            exact absurd ((Option.some.inj H).trans HT_.out) (by decide)
         ·replace c55 := Bool.eq_false_iff.mpr c55
          subst c55
          have H1 : (some false) = some r := by rw [if_neg (show ¬ (false = true) by decide)] at H; exact H
          clear H
          have H := H1
          clear H1
          exact absurd ((Option.some.inj H).trans HT_.out) (by decide)
        ·replace c52 := Bool.eq_false_iff.mpr c52
         subst c52
         have H1 : (some false) = some r := by rw [if_neg (show ¬ (false = true) by decide)] at H; exact H
         clear H
         have H := H1
         clear H1
         exact absurd ((Option.some.inj H).trans HT_.out) (by decide)
       ·replace c48 := Bool.eq_false_iff.mpr c48
        subst c48
        have H1 : (some false) = some r := by rw [if_neg (show ¬ (false = true) by decide)] at H; exact H
        clear H
        have H := H1
        clear H1
        exact absurd ((Option.some.inj H).trans HT_.out) (by decide)
      ·rw [if_neg c45] at H
       have c45b0 : (t213 == t218) = false := by simpa using c45
       (try (have c45b1 : decide (t213 = t218) = false := by simpa using c45))
       (try (have c45b2 : (t213 == t218) = false := by simpa using c45))
       (try (have c45b3 : ¬ (t213 = t218) := by simpa using c45))
       clear c45
       exact absurd ((Option.some.inj H).trans HT_.out) (by decide)
 ·replace c3 := Bool.eq_false_iff.mpr c3
  subst c3
  have H1 : (some false) = some r := by rw [if_neg (show ¬ (false = true) by decide)] at H; exact H
  clear H
  have H := H1
  clear H1
  exact absurd ((Option.some.inj H).trans HT_.out) (by decide)

theorem squelchlaw05_PathGoes.calls (k : Nat) (a0_0 : ByteArray) (a0_1 : Int) (a0_2 : ByteArray) (a0_3 : Int) (a0_4 : Bool) (a0_5 : Bool) (A0_6 : Option Addr) (c0_6 : Nat) (l0_6 : List (S93)) (r : Bool) (w : World) (hT_ : r = true) (hr0_6 : Kd.C k93 w A0_6 l0_6.length l0_6) (hc0_6 : l0_6.length ≤ c0_6) (h : squelchlaw05_PathGoes.f k a0_0 a0_1 a0_2 a0_3 a0_4 a0_5 l0_6 = some r) :
  Calls Tryd.prog 3 #[.agg #[.string a0_0, .int .i64 a0_1, .string a0_2, .int .i64 a0_3, .bool a0_4, .bool a0_5, .slice A0_6 l0_6.length c0_6]] w fun e w' => e = .returned (.bool r) ∧ Below w.heap.size w w' := by
 cases hv : a0_4
 ·subst hv; exact squelchlaw05_PathGoes.calls_f k a0_0 a0_1 a0_2 a0_3 false a0_5 A0_6 c0_6 l0_6 r w hT_ hr0_6 hc0_6 rfl h
 ·subst hv; exact squelchlaw05_PathGoes.calls_t k a0_0 a0_1 a0_2 a0_3 true a0_5 A0_6 c0_6 l0_6 r w hT_ hr0_6 hc0_6 rfl h
end Go.Proofs.YtpmieapgbdbabaaDoor.QAll
end
