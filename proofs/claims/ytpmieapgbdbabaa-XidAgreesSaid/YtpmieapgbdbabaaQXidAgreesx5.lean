-- Written by a program of this session (wip/pp)
import Derived.Test.YtpmieapgbdbabaaQXidAgreesx0
import Derived.Test.YtpmieapgbdbabaaQXidAgreesx4
namespace Go.Proofs.Ytpmieapgbdbabaa.QXidAgrees
open Go.RowKit Go.Proofs.YtpmieapgbdbabaaW.PrintWords Go.Proofs.YtpmieapgbdbabaaW.PrintLast Go.Proofs.YtpmieapgbdbabaaW.PrintMore
attribute [local go_sem] max2_int min2_int max_two min_two min_three
set_option linter.unusedVariables false
set_option linter.unusedSimpArgs false

/-! ### xid_Usual: function 15 -/
def xid_Usual.f  : Option (Bool × Bool × Int × Int × Int × Int) := some (false, false, 64, 4, 20, 5)
set_option maxHeartbeats 8000000 in
set_option maxRecDepth 100000 in
theorem xid_Usual.calls  (r1 : Bool) (r2 : Bool) (r3 : Int) (r4 : Int) (r5 : Int) (r6 : Int) (w : World) (h : xid_Usual.f  = some (r1, r2, r3, r4, r5, r6)) :
  Calls Try.prog 15 #[] w fun e w' => e = .returned (.agg #[.bool r1, .bool r2, .int .i64 r3, .int .i64 r4, .int .i64 r5, .int .i64 r6]) ∧ Below w.heap.size w w' := by
 have hu23 := Try.underlying23
 have HB := Aside0.mk (Below.refl w.heap.size w)
 have H : (some (false, false, 64, 4, 20, 5)) = some (r1, r2, r3, r4, r5, r6) := h
 clear h
 simp only [Option.some.injEq, Prod.mk.injEq] at H
 obtain ⟨rfl, rfl, rfl, rfl, rfl, rfl⟩ := H
 go_enter Try.func15, Try.ntmps15
 go_wp2_with (first | ((with_reducible refine gate_dst (N := 0) rfl ?_); refine box_event ?hg (N := 0) ?hd (cs := #[.bool false, .bool false, .int .i64 0, .int .i64 0, .int .i64 0, .int .i64 0]) (t := 23) ?hr ?_; (case hd => rfl); (case hg => rfl); (case hr => first | (go_simp; done) | (go_simp; rfl)); intro gb141 hg w1 hbox hb; have n0_ := Aside0.mk (below_step (by repeat (first | (with_reducible first | exact HB.out | apply below_alloc | apply pw_below_drewN | apply below_drew1) | exact HB.out)) hb); have n1_ := Aside0.mk (hbox); have n2_ := Aside0.mk ((by rw [hg]; exact (below_size (by repeat (first | (with_reducible first | exact HB.out | apply below_alloc | apply pw_below_drewN | apply below_drew1) | exact HB.out))) : w.heap.size ≤ gb141)); have n3_ := Aside0.mk ((by rw [hg]; exact (below_size (by repeat (first | (with_reducible first | exact HB.out | apply below_alloc | apply pw_below_drewN | apply below_drew1) | exact HB.out))) : w.heap.size ≤ gb141)); clear HB; have HB := n0_; have BK141 := n1_; have GW141 := n2_; have GE141 := n3_; clear n0_ n1_ n2_ n3_; clear hb hbox hg; have hcz2_0 : w1.cell? ⟨gb141, 0, none⟩ = some (.bool false) := (blk_cell BK141.out 0).trans rfl; have hcz2_1 : w1.cell? ⟨gb141, 1, none⟩ = some (.bool false) := (blk_cell BK141.out 1).trans rfl; have hcz2_2 : w1.cell? ⟨gb141, 2, none⟩ = some (.int .i64 0) := (blk_cell BK141.out 2).trans rfl; have hcz2_3 : w1.cell? ⟨gb141, 3, none⟩ = some (.int .i64 0) := (blk_cell BK141.out 3).trans rfl; have hcz2_4 : w1.cell? ⟨gb141, 4, none⟩ = some (.int .i64 0) := (blk_cell BK141.out 4).trans rfl; have hcz2_5 : w1.cell? ⟨gb141, 5, none⟩ = some (.int .i64 0) := (blk_cell BK141.out 5).trans rfl; have hfz2_0 := blk_frozen BK141.out 0; have hfz2_1 := blk_frozen BK141.out 1; have hfz2_2 := blk_frozen BK141.out 2; have hfz2_3 := blk_frozen BK141.out 3; have hfz2_4 := blk_frozen BK141.out 4; have hfz2_5 := blk_frozen BK141.out 5))
 refine bodyPost_ret (results_cell_row rfl _ _ gb141 23 #[.bool false, .bool false, .int .i64 64, .int .i64 4, .int .i64 20, .int .i64 5] (0, 0) _ rfl (by (with_reducible repeat (first | refine blk_drewN ?_ _ | refine blk_drew ?_ | refine blk_alloc ?_ _)); refine blk_put (cs := #[.bool false, .bool false, .int .i64 64, .int .i64 4, .int .i64 20, .int .i64 0]) ?_ 5 _ rfl; (with_reducible repeat (first | refine blk_drewN ?_ _ | refine blk_drew ?_ | refine blk_alloc ?_ _)); refine blk_put (cs := #[.bool false, .bool false, .int .i64 64, .int .i64 4, .int .i64 0, .int .i64 0]) ?_ 4 _ rfl; (with_reducible repeat (first | refine blk_drewN ?_ _ | refine blk_drew ?_ | refine blk_alloc ?_ _)); refine blk_put (cs := #[.bool false, .bool false, .int .i64 64, .int .i64 0, .int .i64 0, .int .i64 0]) ?_ 3 _ rfl; (with_reducible repeat (first | refine blk_drewN ?_ _ | refine blk_drew ?_ | refine blk_alloc ?_ _)); refine blk_put (cs := #[.bool false, .bool false, .int .i64 0, .int .i64 0, .int .i64 0, .int .i64 0]) ?_ 2 _ rfl; (with_reducible repeat (first | refine blk_drewN ?_ _ | refine blk_drew ?_ | refine blk_alloc ?_ _)); refine blk_put (cs := #[.bool false, .bool false, .int .i64 0, .int .i64 0, .int .i64 0, .int .i64 0]) ?_ 1 _ rfl; (with_reducible repeat (first | refine blk_drewN ?_ _ | refine blk_drew ?_ | refine blk_alloc ?_ _)); refine blk_put (cs := #[.bool false, .bool false, .int .i64 0, .int .i64 0, .int .i64 0, .int .i64 0]) ?_ 0 _ rfl; (with_reducible repeat (first | refine blk_drewN ?_ _ | refine blk_drew ?_ | refine blk_alloc ?_ _)); exact BK141.out) Try.underlying23 rfl (by kernel_rfl)) rfl ?_
 exact ⟨by first | rfl | (simp [errW_none, errW_some] <;> rfl) | (simp [*, errW_none, errW_some] <;> rfl), by repeat (first | (with_reducible first | exact HB.out | apply below_alloc | apply pw_below_drewN | apply below_drew1 | refine below_set ?_ GE141.out) | exact HB.out)⟩

/-! ### squelchlaw08_awake: function 5 -/
def squelchlaw08_awake.f (k : Nat)  : Option (Bool) := (xid_Usual.f).bind fun bt142 => ((xid_Put.f k bt142.1 bt142.2.1 bt142.2.2.1 bt142.2.2.2.1 bt142.2.2.2.2.1 bt142.2.2.2.2.2).bind fun bt148 => (if bt148.2 = 0 then (if (bt148.1.size : Int) = 21 then (if 3 < (bt148.1.size : Int) then (if (bt bt148.1 3) = 17 then ((xid_Usual.f).bind fun bt150 => (some (bt150.2.2.2.1 == 4))) else (some false)) else (none)) else (some false)) else (some false)))
set_option maxHeartbeats 8000000 in
set_option maxRecDepth 100000 in
theorem squelchlaw08_awake.calls (k : Nat)  (r : Bool) (w : World) (h : squelchlaw08_awake.f k  = some r) :
  Calls Try.prog 5 #[] w fun e w' => e = .returned (.bool r) ∧ Below w.heap.size w w' := by
 have hu23 := Try.underlying23
 have hfd23_3 : ∀ (y0_ y1_ y2_ y3_ y4_ y5_ : Value) (W : World), (Instr.field 23 (.agg #[y0_, y1_, y2_, y3_, y4_, y5_]) 3).run Try.prog W = .ok (y3_) W := fun y0_ y1_ y2_ y3_ y4_ y5_ W => by kernel_rfl
 have HB := Aside0.mk (Below.refl w.heap.size w)
 have H : ((xid_Usual.f).bind fun bt142 => ((xid_Put.f k bt142.1 bt142.2.1 bt142.2.2.1 bt142.2.2.2.1 bt142.2.2.2.2.1 bt142.2.2.2.2.2).bind fun bt148 => (if bt148.2 = 0 then (if (bt148.1.size : Int) = 21 then (if 3 < (bt148.1.size : Int) then (if (bt bt148.1 3) = 17 then ((xid_Usual.f).bind fun bt150 => (some (bt150.2.2.2.1 == 4))) else (some false)) else (none)) else (some false)) else (some false)))) = some r := h
 clear h
 replace H := Option.bind_eq_some_iff.mp H
 obtain ⟨⟨t142, t143, t144, t145, t146, t147⟩, A10, H⟩ := H
 replace H : ((xid_Put.f k t142 t143 t144 t145 t146 t147).bind fun bt148 => (if bt148.2 = 0 then (if (bt148.1.size : Int) = 21 then (if 3 < (bt148.1.size : Int) then (if (bt bt148.1 3) = 17 then ((xid_Usual.f).bind fun bt150 => (some (bt150.2.2.2.1 == 4))) else (some false)) else (none)) else (some false)) else (some false))) = some r := H
 have A1 := Aside0.mk A10
 clear A10
 replace H := Option.bind_eq_some_iff.mp H
 obtain ⟨⟨t148, t149⟩, A20, H⟩ := H
 replace H : (if t149 = 0 then (if (t148.size : Int) = 21 then (if 3 < (t148.size : Int) then (if (bt t148 3) = 17 then ((xid_Usual.f).bind fun bt150 => (some (bt150.2.2.2.1 == 4))) else (some false)) else (none)) else (some false)) else (some false)) = some r := H
 have A2 := Aside0.mk A20
 clear A20
 by_cases c3 : t149 = 0
 ·rw [if_pos c3] at H
  have c3b0 : (t149 == 0) = true := beq_iff_eq.mpr c3
  have c3b1 : (t149 != 0) = false := bne_eq_false_iff_eq.mpr c3
  clear c3
  by_cases c4 : (t148.size : Int) = 21
  ·rw [if_pos c4] at H
   have c4b0 : ((t148.size : Int) == 21) = true := beq_iff_eq.mpr c4
   have c4b1 : ((t148.size : Int) != 21) = false := bne_eq_false_iff_eq.mpr c4
   clear c4
   by_cases c5 : 3 < (t148.size : Int)
   ·rw [if_pos c5] at H
    have c5b0 : decide (3 < (t148.size : Int)) = true := decide_eq_true c5
    have c5b1 : decide (3 < t148.size) = true := decide_eq_true (by omega)
    clear c5
    by_cases c7 : (bt t148 3) = 17
    ·rw [if_pos c7] at H
     have c7b0 : ((bt t148 3) == 17) = true := beq_iff_eq.mpr c7
     have c7b1 : ((bt t148 3) != 17) = false := bne_eq_false_iff_eq.mpr c7
     clear c7
     replace H := Option.bind_eq_some_iff.mp H
     obtain ⟨⟨t150, t151, t152, t153, t154, t155⟩, A80, H⟩ := H
     replace H : (some (t153 == 4)) = some r := H
     have A8 := Aside0.mk A80
     clear A80
     obtain rfl := Option.some.inj H
     go_enter Try.func5, Try.ntmps5
     go_wp2_with (first | ((with_reducible refine gate_callee (f := 15) rfl ?_); refine goesL_ (some 4) rfl rfl Try.func15 (by kernel_rfl) rfl #[] rfl (by (try simp only [List.map_toArray, List.map_cons, List.map_nil]); first | done | rfl | (simp only [List.length_drop, List.length_take]; rfl)) ?_; (with_reducible refine (xid_Usual.calls  t142 t143 t144 t145 t146 t147 _ A1.out).mono ?_); rintro e w9 ⟨rfl, hb⟩; refine ⟨_, rfl, ?_⟩; have n0_ := Aside0.mk (below_step (by repeat (first | (with_reducible first | exact HB.out | apply below_alloc | apply pw_below_drewN | apply below_drew1) | exact HB.out)) hb); clear HB; have HB := n0_; clear n0_; (try clear hb); (try clear hb2); (try clear hk); (try clear hi)) | ((with_reducible refine gate_callee (f := 10) rfl ?_); refine goesL_ (some 5) rfl rfl Try.func10 (by kernel_rfl) rfl #[.agg #[.bool t142, .bool t143, .int .i64 t144, .int .i64 t145, .int .i64 t146, .int .i64 t147]] rfl (by (try simp only [List.map_toArray, List.map_cons, List.map_nil]); first | done | rfl | (simp only [List.length_drop, List.length_take]; rfl)) ?_; (with_reducible refine (xid_Put.calls k t142 t143 t144 t145 t146 t147 t148 t149 _ A2.out).mono ?_); rintro e w10 ⟨rfl, hb⟩; refine ⟨_, rfl, ?_⟩; have n0_ := Aside0.mk (below_step (by repeat (first | (with_reducible first | exact HB.out | apply below_alloc | apply pw_below_drewN | apply below_drew1) | exact HB.out)) hb); clear HB; have HB := n0_; clear n0_; (try clear hb); (try clear hb2); (try clear hk); (try clear hi); have p6 : 0 ≤ (3 : Int) := (by omega); have q6 : 3 < t148.size := (by have : (3 : Int) < (t148.size : Int) := of_decide_eq_true (by first | (with_reducible assumption) | assumption); omega); have hx6 : ∀ h : 3 < t148.size, ((t148[3]'h).toNat : Int) = bt t148 3 := bt_at t148 3; clear p6; have qi6 : (3 < (t148.size : Int)) = True := eq_true (of_decide_eq_true (by first | (with_reducible assumption) | assumption)); replace q6 := eq_true q6) | (go_at_call 15; (with_reducible refine (xid_Usual.calls  t150 t151 t152 t153 t154 t155 _ A8.out).mono ?_); rintro e w11 ⟨rfl, hb⟩; have n0_ := Aside0.mk (below_step (by repeat (first | (with_reducible first | exact HB.out | apply below_alloc | apply pw_below_drewN | apply below_drew1) | exact HB.out)) hb); clear HB; have HB := n0_; clear n0_; (try clear hb); (try clear hb2); (try clear hk); (try clear hi)))
     go_ret
     exact ⟨by first | rfl | (simp [errW_none, errW_some] <;> rfl) | (simp [*, errW_none, errW_some] <;> rfl), by repeat (first | (with_reducible first | exact HB.out | apply below_alloc | apply pw_below_drewN | apply below_drew1) | exact HB.out)⟩
    ·rw [if_neg c7] at H
     have c7b0 : ((bt t148 3) == 17) = false := beq_eq_false_iff_ne.mpr c7
     have c7b1 : ((bt t148 3) != 17) = true := bne_iff_ne.mpr c7
     obtain rfl := Option.some.inj H
     go_enter Try.func5, Try.ntmps5
     go_wp2_with (first | ((with_reducible refine gate_callee (f := 15) rfl ?_); refine goesL_ (some 4) rfl rfl Try.func15 (by kernel_rfl) rfl #[] rfl (by (try simp only [List.map_toArray, List.map_cons, List.map_nil]); first | done | rfl | (simp only [List.length_drop, List.length_take]; rfl)) ?_; (with_reducible refine (xid_Usual.calls  t142 t143 t144 t145 t146 t147 _ A1.out).mono ?_); rintro e w12 ⟨rfl, hb⟩; refine ⟨_, rfl, ?_⟩; have n0_ := Aside0.mk (below_step (by repeat (first | (with_reducible first | exact HB.out | apply below_alloc | apply pw_below_drewN | apply below_drew1) | exact HB.out)) hb); clear HB; have HB := n0_; clear n0_; (try clear hb); (try clear hb2); (try clear hk); (try clear hi)) | ((with_reducible refine gate_callee (f := 10) rfl ?_); refine goesL_ (some 5) rfl rfl Try.func10 (by kernel_rfl) rfl #[.agg #[.bool t142, .bool t143, .int .i64 t144, .int .i64 t145, .int .i64 t146, .int .i64 t147]] rfl (by (try simp only [List.map_toArray, List.map_cons, List.map_nil]); first | done | rfl | (simp only [List.length_drop, List.length_take]; rfl)) ?_; (with_reducible refine (xid_Put.calls k t142 t143 t144 t145 t146 t147 t148 t149 _ A2.out).mono ?_); rintro e w13 ⟨rfl, hb⟩; refine ⟨_, rfl, ?_⟩; have n0_ := Aside0.mk (below_step (by repeat (first | (with_reducible first | exact HB.out | apply below_alloc | apply pw_below_drewN | apply below_drew1) | exact HB.out)) hb); clear HB; have HB := n0_; clear n0_; (try clear hb); (try clear hb2); (try clear hk); (try clear hi); have p6 : 0 ≤ (3 : Int) := (by omega); have q6 : 3 < t148.size := (by have : (3 : Int) < (t148.size : Int) := of_decide_eq_true (by first | (with_reducible assumption) | assumption); omega); have hx6 : ∀ h : 3 < t148.size, ((t148[3]'h).toNat : Int) = bt t148 3 := bt_at t148 3; clear p6; have qi6 : (3 < (t148.size : Int)) = True := eq_true (of_decide_eq_true (by first | (with_reducible assumption) | assumption)); replace q6 := eq_true q6))
     go_ret
     exact ⟨by first | rfl | (simp [errW_none, errW_some] <;> rfl) | (simp [*, errW_none, errW_some] <;> rfl), by repeat (first | (with_reducible first | exact HB.out | apply below_alloc | apply pw_below_drewN | apply below_drew1) | exact HB.out)⟩
   ·rw [if_neg c5] at H
    exact absurd H (by simp)
  ·rw [if_neg c4] at H
   have c4b0 : ((t148.size : Int) == 21) = false := beq_eq_false_iff_ne.mpr c4
   have c4b1 : ((t148.size : Int) != 21) = true := bne_iff_ne.mpr c4
   obtain rfl := Option.some.inj H
   go_enter Try.func5, Try.ntmps5
   go_wp2_with (first | ((with_reducible refine gate_callee (f := 15) rfl ?_); refine goesL_ (some 4) rfl rfl Try.func15 (by kernel_rfl) rfl #[] rfl (by (try simp only [List.map_toArray, List.map_cons, List.map_nil]); first | done | rfl | (simp only [List.length_drop, List.length_take]; rfl)) ?_; (with_reducible refine (xid_Usual.calls  t142 t143 t144 t145 t146 t147 _ A1.out).mono ?_); rintro e w14 ⟨rfl, hb⟩; refine ⟨_, rfl, ?_⟩; have n0_ := Aside0.mk (below_step (by repeat (first | (with_reducible first | exact HB.out | apply below_alloc | apply pw_below_drewN | apply below_drew1) | exact HB.out)) hb); clear HB; have HB := n0_; clear n0_; (try clear hb); (try clear hb2); (try clear hk); (try clear hi)) | ((with_reducible refine gate_callee (f := 10) rfl ?_); refine goesL_ (some 5) rfl rfl Try.func10 (by kernel_rfl) rfl #[.agg #[.bool t142, .bool t143, .int .i64 t144, .int .i64 t145, .int .i64 t146, .int .i64 t147]] rfl (by (try simp only [List.map_toArray, List.map_cons, List.map_nil]); first | done | rfl | (simp only [List.length_drop, List.length_take]; rfl)) ?_; (with_reducible refine (xid_Put.calls k t142 t143 t144 t145 t146 t147 t148 t149 _ A2.out).mono ?_); rintro e w15 ⟨rfl, hb⟩; refine ⟨_, rfl, ?_⟩; have n0_ := Aside0.mk (below_step (by repeat (first | (with_reducible first | exact HB.out | apply below_alloc | apply pw_below_drewN | apply below_drew1) | exact HB.out)) hb); clear HB; have HB := n0_; clear n0_; (try clear hb); (try clear hb2); (try clear hk); (try clear hi)))
   go_ret
   exact ⟨by first | rfl | (simp [errW_none, errW_some] <;> rfl) | (simp [*, errW_none, errW_some] <;> rfl), by repeat (first | (with_reducible first | exact HB.out | apply below_alloc | apply pw_below_drewN | apply below_drew1) | exact HB.out)⟩
 ·rw [if_neg c3] at H
  have c3b0 : (t149 == 0) = false := beq_eq_false_iff_ne.mpr c3
  have c3b1 : (t149 != 0) = true := bne_iff_ne.mpr c3
  obtain rfl := Option.some.inj H
  go_enter Try.func5, Try.ntmps5
  go_wp2_with (first | ((with_reducible refine gate_callee (f := 15) rfl ?_); refine goesL_ (some 4) rfl rfl Try.func15 (by kernel_rfl) rfl #[] rfl (by (try simp only [List.map_toArray, List.map_cons, List.map_nil]); first | done | rfl | (simp only [List.length_drop, List.length_take]; rfl)) ?_; (with_reducible refine (xid_Usual.calls  t142 t143 t144 t145 t146 t147 _ A1.out).mono ?_); rintro e w16 ⟨rfl, hb⟩; refine ⟨_, rfl, ?_⟩; have n0_ := Aside0.mk (below_step (by repeat (first | (with_reducible first | exact HB.out | apply below_alloc | apply pw_below_drewN | apply below_drew1) | exact HB.out)) hb); clear HB; have HB := n0_; clear n0_; (try clear hb); (try clear hb2); (try clear hk); (try clear hi)) | ((with_reducible refine gate_callee (f := 10) rfl ?_); refine goesL_ (some 5) rfl rfl Try.func10 (by kernel_rfl) rfl #[.agg #[.bool t142, .bool t143, .int .i64 t144, .int .i64 t145, .int .i64 t146, .int .i64 t147]] rfl (by (try simp only [List.map_toArray, List.map_cons, List.map_nil]); first | done | rfl | (simp only [List.length_drop, List.length_take]; rfl)) ?_; (with_reducible refine (xid_Put.calls k t142 t143 t144 t145 t146 t147 t148 t149 _ A2.out).mono ?_); rintro e w17 ⟨rfl, hb⟩; refine ⟨_, rfl, ?_⟩; have n0_ := Aside0.mk (below_step (by repeat (first | (with_reducible first | exact HB.out | apply below_alloc | apply pw_below_drewN | apply below_drew1) | exact HB.out)) hb); clear HB; have HB := n0_; clear n0_; (try clear hb); (try clear hb2); (try clear hk); (try clear hi)))
  go_ret
  exact ⟨by first | rfl | (simp [errW_none, errW_some] <;> rfl) | (simp [*, errW_none, errW_some] <;> rfl), by repeat (first | (with_reducible first | exact HB.out | apply below_alloc | apply pw_below_drewN | apply below_drew1) | exact HB.out)⟩

end Go.Proofs.Ytpmieapgbdbabaa.QXidAgrees
