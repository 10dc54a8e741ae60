/- The row of the law ScriptParses, out of its walks and its plain law. -/
import Derived.Test.YtndgaeldndgioaaGreatDoorMScriptParses3
import Derived.RegionTactic
import Derived.Test.YtndgaeldndgioaaGreatDoorMScriptParses2
import Derived.Test.YtndgaeldndgioaaGreatDoorMScriptParses0
import Derived.Test.YtndgaeldndgioaaGreatDoorRows
import Derived.Lib.LaidU8
import Derived.Lay
import Derived.Handed
import Derived.SizedLaws
import Derived.LaidLaws
import Derived.Shelf.Vars
import Derived.LaidHandle
import Derived.Stop.Joined
import Derived.Test.YtndgaeldndgioaaGreatDoorTie
import Derived.Test.YtndgaeldndgioaaGreatDoorCards
import Derived.WalkKit
import Derived.ProofKit
import Derived.OpenShut
import Derived.ShutString
import Derived.ChangeOld
import Derived.Below
import Derived.Lib.SmallJoins
import Derived.Deep.Slices
import Derived.Deep.Fields
import Derived.ChangeSame
section
/- squelchref30.Parse, walked by hand: a line of kind 10. -/
set_option linter.unusedVariables false
set_option linter.unusedSimpArgs false
namespace Go.Proofs.YtndgaeldndgioaaGreatDoor.QAll
open Go.RowKit Go.Proofs.YtndgaeldndgioaaGreatDoorW.PrintWords Go.Proofs.YtndgaeldndgioaaGreatDoorW.PrintLast Go.Proofs.YtndgaeldndgioaaGreatDoorW.PrintMore
set_option maxHeartbeats 16000000 in
set_option maxRecDepth 100000 in
theorem rparse10 (s l0 w1d w2d w3d : ByteArray) (K1 K2 K3 K4 : Nat) (a : Int) (x : Int) (y : Int) (rb : Bool) (p : ByteArray) (o : Value) (ok : Bool) (w : World) (ho : (rb = true ∧ p = s ∧ o = rV 10 a 0 0 0 ⟨#[]⟩ x y ⟨#[]⟩ ∧ ok = true) ∨ (¬ (rb = true ∧ p = s) ∧ o = rV 0 0 0 0 0 ⟨#[]⟩ 0 0 ⟨#[]⟩ ∧ ok = false)) (hw : squelchref30_words.f K1 s = some [l0, w1d, w2d, w3d]) (hk : kindUp l0 11 = 10) (ha : squelchref30_number.f K2 w1d = some a) (hx : squelchref30_number.f K2 w2d = some x) (hy : squelchref30_number.f K2 w3d = some y)
    (hr : squelchref30_Right.f K3 10 a 0 0 0 ⟨#[]⟩ x y ⟨#[]⟩ = some rb) (hp : rb = true → squelchref30_Print.f 10 a 0 0 0 ⟨#[]⟩ x y ⟨#[]⟩ = some p) :
    Calls Tryz.prog 8 #[.string s] w fun r w' => r = .returned (.tuple #[o, .bool ok]) ∧ Below w.heap.size w w' := by
  have HO := Aside0.mk ho
  clear ho
  have HW := Aside0.mk hw
  have HK := Aside0.mk hk
  have HR := Aside0.mk hr
  have HP := Aside0.mk hp
  have Ja := Aside0.mk ha
  have Jx := Aside0.mk hx
  have Jy := Aside0.mk hy
  clear hw hk hr hp ha hx hy
  go_enter Tryz.func8, Tryz.ntmps8
  go_wp2_with (fail)
  (with_reducible refine (words_at K1 s _ _ HW.out (by simp)).mono ?_)
  rintro e w2 ⟨⟨gw, cw, csw, rfl, hgw, hbw, hcw⟩, hb2⟩
  have HB2 := Aside0.mk (below_step ((Below.refl w.heap.size w).alloc (Nat.le_refl _) _) hb2)
  have HX2 := Aside0.mk ((hb2.block w.heap.size (by simp)).trans (heap_alloc_new w _))
  have HWb := Aside0.mk hbw
  have HCw := Aside0.mk hcw
  have hgw' : w.heap.size < gw := Nat.lt_of_lt_of_le (by simp) hgw
  have hlt2 : gw < w2.heap.size := lt_of_some hbw
  clear hb2 hbw hcw hgw
  have HQ := Aside0.mk (show PX w gw w2.heap.size csw #[.int .i64 0, .int .i64 0, .int .i64 0, .int .i64 0, .int .i64 0, .string ⟨#[]⟩, .int .i64 0, .int .i64 0, .string ⟨#[]⟩] (w2.alloc (.cells #[.int .i64 0, .int .i64 0, .int .i64 0, .int .i64 0, .int .i64 0, .string ⟨#[]⟩, .int .i64 0, .int .i64 0, .string ⟨#[]⟩] 31 (0, 0))) from ⟨below_alloc HB2.out _, (Below.heap_alloc _ _ _ (Nat.lt_trans hgw' hlt2)).trans HX2.out, (Below.heap_alloc _ _ _ hlt2).trans HWb.out, heap_alloc_new _ _, hgw', hlt2⟩)
  clear HB2 HX2 HWb
  go_wp2_with (fail)
  (with_reducible refine (names_bl _).mono ?_)
  rintro e w3 ⟨⟨gn, cn, csn, rfl, hgn, hbn, hcn⟩, hb3⟩
  have HQ3 := Aside0.mk (PX_below HQ.out hb3)
  have HNb := Aside0.mk hbn
  have HCn := Aside0.mk hcn
  have hgn' : w2.heap.size < gn := Nat.lt_of_lt_of_le (by simp) hgn
  clear hb3 HQ hbn hcn hgn
  generalize w2.heap.size = g at HQ3 hgn' hlt2 ⊢
  go_wp2_with (fail)
  go_loopw [7] (fun v7 wr => ∃ (j : Nat), j ≤ 11 ∧ v7 = .int .i64 ((j : Int) + 1) ∧ Aside0 (PX w gw g csw #[.int .i64 (kindUp l0 j : Int), .int .i64 0, .int .i64 0, .int .i64 0, .int .i64 0, .string ⟨#[]⟩, .int .i64 0, .int .i64 0, .string ⟨#[]⟩] wr) ∧ Aside0 (wr.heap[gn]? = some (.cells csn 9 (0, 0)))) (fun v7 _ => 12 - (intOf v7).toNat)
  case atStart => exact ⟨0, by omega, rfl, HQ3, HNb⟩
  case round =>
    obtain ⟨j, hj, rfl, HQj, HNj⟩ := hrel
    clear HQ3 HNb
    have hw0 := cell_of HQj.out.w (HCw.out 0 l0 rfl)
    by_cases hlt : j < 11
    · have hn0 := cell_of HNj.out (HCn.out (j + 1) (nameOf (j + 1)) (by unfold nameOf; rw [List.getD_eq_getElem?_getD, List.getElem?_eq_getElem (show j + 1 < namesL.length by show j + 1 < 12; omega)]; rfl))
      have hj0 : (0 ≤ (j : Int) + 1) = True := eq_true (by omega)
      have hj1 : ((j : Int) + 1 < 12) = True := eq_true (by omega)
      by_cases hq : nameOf (j + 1) = l0
      · have hqb : ((nameOf (j + 1)).toList == l0.toList) = true := by rw [hq]; exact beq_self_eq_true _
        have hup : kindUp l0 (j + 1) = j + 1 := by rw [kindUp, if_pos hq]
        have he0 := cell_of HQj.out.e (j := 0) rfl
        have hf0 := Lib.frozen_of_heap HQj.out.e 0
        go_wp2_with (fail)
        go_region_with (fail)
        all_goals go_wp2_with (fail)
        all_goals (go_roundw; (case rel => exact ⟨j + 1, by omega, rfl, ⟨by rw [hup]; repeat (first | exact PX_set HQj.out 0 _ | apply PX_drew)⟩, ⟨(set_ne HNj.out (show ¬ g = gn by omega) 0 _)⟩⟩); (case measure => simp [intOf]; omega))
      · have hqb : ((nameOf (j + 1)).toList == l0.toList) = false := beq_eq_false_iff_ne.2 (fun h => hq (by
          rw [Go.ByteArray.toList_eq, Go.ByteArray.toList_eq] at h
          generalize nameOf (j + 1) = nm at h
          cases nm; cases l0
          congr 1
          exact Array.ext' h))
        have hup : kindUp l0 (j + 1) = kindUp l0 j := by rw [kindUp, if_neg hq]
        go_wp2_with (fail)
        go_region_with (fail)
        all_goals go_wp2_with (fail)
        all_goals (go_roundw; (case rel => exact ⟨j + 1, by omega, rfl, ⟨by rw [hup]; repeat (first | exact HQj.out | apply PX_drew)⟩, ⟨HNj.out⟩⟩); (case measure => simp [intOf]; omega))
    · obtain rfl : j = 11 := by omega
      rw [HK.out] at HQj
      have HQ4 := Aside0.mk (show PX w gw g csw #[.int .i64 10, .int .i64 0, .int .i64 0, .int .i64 0, .int .i64 0, .string ⟨#[]⟩, .int .i64 0, .int .i64 0, .string ⟨#[]⟩] wr from HQj.out)
      have HQ0 := Aside0.mk (PX_alloc HQ4.out (.cells #[.int .i64 0, .int .i64 3, .int .i64 3, .int .i64 2, .int .i64 2, .int .i64 3, .int .i64 5, .int .i64 3, .int .i64 3, .int .i64 5, .int .i64 4, .int .i64 4] 3 (0, 0)))
      have HN5 := Aside0.mk (heap_alloc_new wr (.cells #[.int .i64 0, .int .i64 3, .int .i64 3, .int .i64 2, .int .i64 2, .int .i64 3, .int .i64 5, .int .i64 3, .int .i64 3, .int .i64 5, .int .i64 4, .int .i64 4] 3 (0, 0)))
      generalize hw6 : wr.alloc (.cells #[.int .i64 0, .int .i64 3, .int .i64 3, .int .i64 2, .int .i64 2, .int .i64 3, .int .i64 5, .int .i64 3, .int .i64 3, .int .i64 5, .int .i64 4, .int .i64 4] 3 (0, 0)) = v0 at HQ0 HN5
      clear HQj HQ4 HNj hw0
      obtain ⟨k0, k1, k2, k3, k4, k5, k6, k7, k8⟩ := cells9 HQ0.out.e
      have hn := cell_of HN5.out (j := 10) rfl
      have hwj := cell_of HQ0.out.w (HCw.out 1 _ rfl)
      go_wp2_with (fail)
      (with_reducible refine (squelchref30_number.calls K2 w1d a _ Ja.out).mono ?_)
      rintro r v1 ⟨rfl, hd⟩
      have HQ1 := Aside0.mk (show PX w gw g csw #[.int .i64 10, .int .i64 0, .int .i64 0, .int .i64 0, .int .i64 0, .string ⟨#[]⟩, .int .i64 0, .int .i64 0, .string ⟨#[]⟩] v1 from PX_below HQ0.out hd.below)
      clear HQ0 hd hwj hn hw6 HN5 k0 k1 k2 k3 k4 k5 k6 k7 k8
      obtain ⟨k0, k1, k2, k3, k4, k5, k6, k7, k8⟩ := cells9 HQ1.out.e
      have f1 := Lib.frozen_of_heap HQ1.out.e 1
      have HQ2 := Aside0.mk (show PX w gw g csw #[.int .i64 10, .int .i64 a, .int .i64 0, .int .i64 0, .int .i64 0, .string ⟨#[]⟩, .int .i64 0, .int .i64 0, .string ⟨#[]⟩] (v1.setCell ⟨g, 1, none⟩ (.int .i64 a)) from PX_set HQ1.out 1 (.int .i64 a))
      generalize hwv : v1.setCell ⟨g, 1, none⟩ (.int .i64 a) = v2 at HQ2
      obtain ⟨m0, m1, m2, m3, m4, m5, m6, m7, m8⟩ := cells9 HQ2.out.e
      have hwj1 := cell_of HQ2.out.w (HCw.out 2 _ rfl)
      have hwj2 := cell_of HQ2.out.w (HCw.out 3 _ rfl)
      have f6 := Lib.frozen_of_heap HQ2.out.e 6
      have f7 := Lib.frozen_of_heap HQ2.out.e 7
      go_wp2_with (fail)
      clear HQ1 k0 k1 k2 k3 k4 k5 k6 k7 k8 f1 hwv
      go_region_with (first | (go_at_call 20; (first | (with_reducible refine (squelchref30_number.calls K2 w2d x _ Jx.out).mono ?_) | (with_reducible refine (squelchref30_number.calls K2 w3d y _ Jy.out).mono ?_)); rintro r v' ⟨rfl, ⟨nd, rfl⟩⟩))
      all_goals (
        go_wp2_with (fail)
        (with_reducible refine (squelchref30_Right.calls K3 10 a 0 0 0 ⟨#[]⟩ x y ⟨#[]⟩ rb _ HR.out).mono ?_)
        rintro r v3 ⟨rfl, hd⟩
        have HQ3 : Aside0 (PX w gw g csw #[.int .i64 10, .int .i64 a, .int .i64 0, .int .i64 0, .int .i64 0, .string ⟨#[]⟩, .int .i64 x, .int .i64 y, .string ⟨#[]⟩] v3) := by
          refine ⟨PX_to' hd ?_⟩
          apply Exists.intro
          apply And.intro
          · repeat (first | exact HQ2.out | apply PX_set | apply PX_drewN | apply PX_drew)
          · rfl
        clear HQ2 hd m0 m1 m2 m3 m4 m5 m6 m7 m8
        obtain ⟨k0, k1, k2, k3, k4, k5, k6, k7, k8⟩ := cells9 HQ3.out.e
        cases rb with
        | false =>
          obtain ⟨rfl, rfl⟩ := (show o = rV 0 0 0 0 0 ⟨#[]⟩ 0 0 ⟨#[]⟩ ∧ ok = false from HO.out.elim (fun h => absurd (And.intro h.1 h.2.1) (fun h => Bool.false_ne_true h.1)) (fun h => h.2))
          obtain ⟨i0, i1, i2, i3, i4, i5, i6, i7, i8⟩ := cells9 HQ3.out.r
          have f0 := Lib.frozen_of_heap HQ3.out.r 0
          have f1 := Lib.frozen_of_heap HQ3.out.r 1
          have f2 := Lib.frozen_of_heap HQ3.out.r 2
          have f3 := Lib.frozen_of_heap HQ3.out.r 3
          have f4 := Lib.frozen_of_heap HQ3.out.r 4
          have f5 := Lib.frozen_of_heap HQ3.out.r 5
          have f6 := Lib.frozen_of_heap HQ3.out.r 6
          have f7 := Lib.frozen_of_heap HQ3.out.r 7
          have f8 := Lib.frozen_of_heap HQ3.out.r 8
          go_wp2_with (fail)
          refine bodyPost_ret (results_ct rfl _ _ w.heap.size 31 #[.int .i64 0, .int .i64 0, .int .i64 0, .int .i64 0, .int .i64 0, .string ⟨#[]⟩, .int .i64 0, .int .i64 0, .string ⟨#[]⟩] (0, 0) _ rfl ?hc Tryz.underlying31 rfl (by kernel_rfl)) rfl ?_
          case hc => exact nine_set HQ3.out.r
          exact ⟨rfl, below_sets9 HQ3.out.b (Nat.le_refl _) _ _ _ _ _ _ _ _ _⟩
        | true =>
          go_wp2_with (fail)
          (with_reducible refine (squelchref30_Print.calls 10 a 0 0 0 ⟨#[]⟩ x y ⟨#[]⟩ p _ (HP.out (by first | rfl | trivial))).mono ?_)
          rintro r v4 ⟨rfl, hd⟩
          have HQ4 := Aside0.mk (PX_below HQ3.out hd)
          clear HQ3 hd k0 k1 k2 k3 k4 k5 k6 k7 k8
          obtain ⟨k0, k1, k2, k3, k4, k5, k6, k7, k8⟩ := cells9 HQ4.out.e
          by_cases hq : p = s
          · obtain ⟨rfl, rfl⟩ := (show o = rV 10 a 0 0 0 ⟨#[]⟩ x y ⟨#[]⟩ ∧ ok = true from HO.out.elim (fun h => h.2.2) (fun h => absurd hq (fun e => h.1 ⟨by first | rfl | trivial, e⟩)))
            subst hq
            obtain ⟨i0, i1, i2, i3, i4, i5, i6, i7, i8⟩ := cells9 HQ4.out.r
            have f0 := Lib.frozen_of_heap HQ4.out.r 0
            have f1 := Lib.frozen_of_heap HQ4.out.r 1
            have f2 := Lib.frozen_of_heap HQ4.out.r 2
            have f3 := Lib.frozen_of_heap HQ4.out.r 3
            have f4 := Lib.frozen_of_heap HQ4.out.r 4
            have f5 := Lib.frozen_of_heap HQ4.out.r 5
            have f6 := Lib.frozen_of_heap HQ4.out.r 6
            have f7 := Lib.frozen_of_heap HQ4.out.r 7
            have f8 := Lib.frozen_of_heap HQ4.out.r 8
            go_wp2_with (fail)
            refine bodyPost_ret (results_ct rfl _ _ w.heap.size 31 #[.int .i64 10, .int .i64 a, .int .i64 0, .int .i64 0, .int .i64 0, .string ⟨#[]⟩, .int .i64 x, .int .i64 y, .string ⟨#[]⟩] (0, 0) _ rfl ?hc Tryz.underlying31 rfl (by kernel_rfl)) rfl ?_
            case hc => exact nine_set HQ4.out.r
            exact ⟨rfl, below_sets9 HQ4.out.b (Nat.le_refl _) _ _ _ _ _ _ _ _ _⟩
          · have hne : (p.toList == s.toList) = false := toList_ne hq
            obtain ⟨rfl, rfl⟩ := (show o = rV 0 0 0 0 0 ⟨#[]⟩ 0 0 ⟨#[]⟩ ∧ ok = false from HO.out.elim (fun h => absurd (And.intro h.1 h.2.1) (fun h => hq h.2)) (fun h => h.2))
            obtain ⟨i0, i1, i2, i3, i4, i5, i6, i7, i8⟩ := cells9 HQ4.out.r
            have f0 := Lib.frozen_of_heap HQ4.out.r 0
            have f1 := Lib.frozen_of_heap HQ4.out.r 1
            have f2 := Lib.frozen_of_heap HQ4.out.r 2
            have f3 := Lib.frozen_of_heap HQ4.out.r 3
            have f4 := Lib.frozen_of_heap HQ4.out.r 4
            have f5 := Lib.frozen_of_heap HQ4.out.r 5
            have f6 := Lib.frozen_of_heap HQ4.out.r 6
            have f7 := Lib.frozen_of_heap HQ4.out.r 7
            have f8 := Lib.frozen_of_heap HQ4.out.r 8
            go_wp2_with (fail)
            refine bodyPost_ret (results_ct rfl _ _ w.heap.size 31 #[.int .i64 0, .int .i64 0, .int .i64 0, .int .i64 0, .int .i64 0, .string ⟨#[]⟩, .int .i64 0, .int .i64 0, .string ⟨#[]⟩] (0, 0) _ rfl ?hc Tryz.underlying31 rfl (by kernel_rfl)) rfl ?_
            case hc => exact nine_set HQ4.out.r
            exact ⟨rfl, below_sets9 HQ4.out.b (Nat.le_refl _) _ _ _ _ _ _ _ _ _⟩)
end Go.Proofs.YtndgaeldndgioaaGreatDoor.QAll
end

section
/- squelchref30.Parse, walked by hand: a line of kind 11. -/
set_option linter.unusedVariables false
set_option linter.unusedSimpArgs false
namespace Go.Proofs.YtndgaeldndgioaaGreatDoor.QAll
open Go.RowKit Go.Proofs.YtndgaeldndgioaaGreatDoorW.PrintWords Go.Proofs.YtndgaeldndgioaaGreatDoorW.PrintLast Go.Proofs.YtndgaeldndgioaaGreatDoorW.PrintMore
set_option maxHeartbeats 16000000 in
set_option maxRecDepth 100000 in
theorem rparse11 (s l0 w1d w2d w3d : ByteArray) (K1 K2 K3 K4 : Nat) (a : Int) (x : Int) (y : Int) (rb : Bool) (p : ByteArray) (o : Value) (ok : Bool) (w : World) (ho : (rb = true ∧ p = s ∧ o = rV 11 a 0 0 0 ⟨#[]⟩ x y ⟨#[]⟩ ∧ ok = true) ∨ (¬ (rb = true ∧ p = s) ∧ o = rV 0 0 0 0 0 ⟨#[]⟩ 0 0 ⟨#[]⟩ ∧ ok = false)) (hw : squelchref30_words.f K1 s = some [l0, w1d, w2d, w3d]) (hk : kindUp l0 11 = 11) (ha : squelchref30_number.f K2 w1d = some a) (hx : squelchref30_number.f K2 w2d = some x) (hy : squelchref30_number.f K2 w3d = some y)
    (hr : squelchref30_Right.f K3 11 a 0 0 0 ⟨#[]⟩ x y ⟨#[]⟩ = some rb) (hp : rb = true → squelchref30_Print.f 11 a 0 0 0 ⟨#[]⟩ x y ⟨#[]⟩ = some p) :
    Calls Tryz.prog 8 #[.string s] w fun r w' => r = .returned (.tuple #[o, .bool ok]) ∧ Below w.heap.size w w' := by
  have HO := Aside0.mk ho
  clear ho
  have HW := Aside0.mk hw
  have HK := Aside0.mk hk
  have HR := Aside0.mk hr
  have HP := Aside0.mk hp
  have Ja := Aside0.mk ha
  have Jx := Aside0.mk hx
  have Jy := Aside0.mk hy
  clear hw hk hr hp ha hx hy
  go_enter Tryz.func8, Tryz.ntmps8
  go_wp2_with (fail)
  (with_reducible refine (words_at K1 s _ _ HW.out (by simp)).mono ?_)
  rintro e w2 ⟨⟨gw, cw, csw, rfl, hgw, hbw, hcw⟩, hb2⟩
  have HB2 := Aside0.mk (below_step ((Below.refl w.heap.size w).alloc (Nat.le_refl _) _) hb2)
  have HX2 := Aside0.mk ((hb2.block w.heap.size (by simp)).trans (heap_alloc_new w _))
  have HWb := Aside0.mk hbw
  have HCw := Aside0.mk hcw
  have hgw' : w.heap.size < gw := Nat.lt_of_lt_of_le (by simp) hgw
  have hlt2 : gw < w2.heap.size := lt_of_some hbw
  clear hb2 hbw hcw hgw
  have HQ := Aside0.mk (show PX w gw w2.heap.size csw #[.int .i64 0, .int .i64 0, .int .i64 0, .int .i64 0, .int .i64 0, .string ⟨#[]⟩, .int .i64 0, .int .i64 0, .string ⟨#[]⟩] (w2.alloc (.cells #[.int .i64 0, .int .i64 0, .int .i64 0, .int .i64 0, .int .i64 0, .string ⟨#[]⟩, .int .i64 0, .int .i64 0, .string ⟨#[]⟩] 31 (0, 0))) from ⟨below_alloc HB2.out _, (Below.heap_alloc _ _ _ (Nat.lt_trans hgw' hlt2)).trans HX2.out, (Below.heap_alloc _ _ _ hlt2).trans HWb.out, heap_alloc_new _ _, hgw', hlt2⟩)
  clear HB2 HX2 HWb
  go_wp2_with (fail)
  (with_reducible refine (names_bl _).mono ?_)
  rintro e w3 ⟨⟨gn, cn, csn, rfl, hgn, hbn, hcn⟩, hb3⟩
  have HQ3 := Aside0.mk (PX_below HQ.out hb3)
  have HNb := Aside0.mk hbn
  have HCn := Aside0.mk hcn
  have hgn' : w2.heap.size < gn := Nat.lt_of_lt_of_le (by simp) hgn
  clear hb3 HQ hbn hcn hgn
  generalize w2.heap.size = g at HQ3 hgn' hlt2 ⊢
  go_wp2_with (fail)
  go_loopw [7] (fun v7 wr => ∃ (j : Nat), j ≤ 11 ∧ v7 = .int .i64 ((j : Int) + 1) ∧ Aside0 (PX w gw g csw #[.int .i64 (kindUp l0 j : Int), .int .i64 0, .int .i64 0, .int .i64 0, .int .i64 0, .string ⟨#[]⟩, .int .i64 0, .int .i64 0, .string ⟨#[]⟩] wr) ∧ Aside0 (wr.heap[gn]? = some (.cells csn 9 (0, 0)))) (fun v7 _ => 12 - (intOf v7).toNat)
  case atStart => exact ⟨0, by omega, rfl, HQ3, HNb⟩
  case round =>
    obtain ⟨j, hj, rfl, HQj, HNj⟩ := hrel
    clear HQ3 HNb
    have hw0 := cell_of HQj.out.w (HCw.out 0 l0 rfl)
    by_cases hlt : j < 11
    · have hn0 := cell_of HNj.out (HCn.out (j + 1) (nameOf (j + 1)) (by unfold nameOf; rw [List.getD_eq_getElem?_getD, List.getElem?_eq_getElem (show j + 1 < namesL.length by show j + 1 < 12; omega)]; rfl))
      have hj0 : (0 ≤ (j : Int) + 1) = True := eq_true (by omega)
      have hj1 : ((j : Int) + 1 < 12) = True := eq_true (by omega)
      by_cases hq : nameOf (j + 1) = l0
      · have hqb : ((nameOf (j + 1)).toList == l0.toList) = true := by rw [hq]; exact beq_self_eq_true _
        have hup : kindUp l0 (j + 1) = j + 1 := by rw [kindUp, if_pos hq]
        have he0 := cell_of HQj.out.e (j := 0) rfl
        have hf0 := Lib.frozen_of_heap HQj.out.e 0
        go_wp2_with (fail)
        go_region_with (fail)
        all_goals go_wp2_with (fail)
        all_goals (go_roundw; (case rel => exact ⟨j + 1, by omega, rfl, ⟨by rw [hup]; repeat (first | exact PX_set HQj.out 0 _ | apply PX_drew)⟩, ⟨(set_ne HNj.out (show ¬ g = gn by omega) 0 _)⟩⟩); (case measure => simp [intOf]; omega))
      · have hqb : ((nameOf (j + 1)).toList == l0.toList) = false := beq_eq_false_iff_ne.2 (fun h => hq (by
          rw [Go.ByteArray.toList_eq, Go.ByteArray.toList_eq] at h
          generalize nameOf (j + 1) = nm at h
          cases nm; cases l0
          congr 1
          exact Array.ext' h))
        have hup : kindUp l0 (j + 1) = kindUp l0 j := by rw [kindUp, if_neg hq]
        go_wp2_with (fail)
        go_region_with (fail)
        all_goals go_wp2_with (fail)
        all_goals (go_roundw; (case rel => exact ⟨j + 1, by omega, rfl, ⟨by rw [hup]; repeat (first | exact HQj.out | apply PX_drew)⟩, ⟨HNj.out⟩⟩); (case measure => simp [intOf]; omega))
    · obtain rfl : j = 11 := by omega
      rw [HK.out] at HQj
      have HQ4 := Aside0.mk (show PX w gw g csw #[.int .i64 11, .int .i64 0, .int .i64 0, .int .i64 0, .int .i64 0, .string ⟨#[]⟩, .int .i64 0, .int .i64 0, .string ⟨#[]⟩] wr from HQj.out)
      have HQ0 := Aside0.mk (PX_alloc HQ4.out (.cells #[.int .i64 0, .int .i64 3, .int .i64 3, .int .i64 2, .int .i64 2, .int .i64 3, .int .i64 5, .int .i64 3, .int .i64 3, .int .i64 5, .int .i64 4, .int .i64 4] 3 (0, 0)))
      have HN5 := Aside0.mk (heap_alloc_new wr (.cells #[.int .i64 0, .int .i64 3, .int .i64 3, .int .i64 2, .int .i64 2, .int .i64 3, .int .i64 5, .int .i64 3, .int .i64 3, .int .i64 5, .int .i64 4, .int .i64 4] 3 (0, 0)))
      generalize hw6 : wr.alloc (.cells #[.int .i64 0, .int .i64 3, .int .i64 3, .int .i64 2, .int .i64 2, .int .i64 3, .int .i64 5, .int .i64 3, .int .i64 3, .int .i64 5, .int .i64 4, .int .i64 4] 3 (0, 0)) = v0 at HQ0 HN5
      clear HQj HQ4 HNj hw0
      obtain ⟨k0, k1, k2, k3, k4, k5, k6, k7, k8⟩ := cells9 HQ0.out.e
      have hn := cell_of HN5.out (j := 11) rfl
      have hwj := cell_of HQ0.out.w (HCw.out 1 _ rfl)
      go_wp2_with (fail)
      (with_reducible refine (squelchref30_number.calls K2 w1d a _ Ja.out).mono ?_)
      rintro r v1 ⟨rfl, hd⟩
      have HQ1 := Aside0.mk (show PX w gw g csw #[.int .i64 11, .int .i64 0, .int .i64 0, .int .i64 0, .int .i64 0, .string ⟨#[]⟩, .int .i64 0, .int .i64 0, .string ⟨#[]⟩] v1 from PX_below HQ0.out hd.below)
      clear HQ0 hd hwj hn hw6 HN5 k0 k1 k2 k3 k4 k5 k6 k7 k8
      obtain ⟨k0, k1, k2, k3, k4, k5, k6, k7, k8⟩ := cells9 HQ1.out.e
      have f1 := Lib.frozen_of_heap HQ1.out.e 1
      have HQ2 := Aside0.mk (show PX w gw g csw #[.int .i64 11, .int .i64 a, .int .i64 0, .int .i64 0, .int .i64 0, .string ⟨#[]⟩, .int .i64 0, .int .i64 0, .string ⟨#[]⟩] (v1.setCell ⟨g, 1, none⟩ (.int .i64 a)) from PX_set HQ1.out 1 (.int .i64 a))
      generalize hwv : v1.setCell ⟨g, 1, none⟩ (.int .i64 a) = v2 at HQ2
      obtain ⟨m0, m1, m2, m3, m4, m5, m6, m7, m8⟩ := cells9 HQ2.out.e
      have hwj1 := cell_of HQ2.out.w (HCw.out 2 _ rfl)
      have hwj2 := cell_of HQ2.out.w (HCw.out 3 _ rfl)
      have f6 := Lib.frozen_of_heap HQ2.out.e 6
      have f7 := Lib.frozen_of_heap HQ2.out.e 7
      go_wp2_with (fail)
      clear HQ1 k0 k1 k2 k3 k4 k5 k6 k7 k8 f1 hwv
      go_region_with (first | (go_at_call 20; (first | (with_reducible refine (squelchref30_number.calls K2 w2d x _ Jx.out).mono ?_) | (with_reducible refine (squelchref30_number.calls K2 w3d y _ Jy.out).mono ?_)); rintro r v' ⟨rfl, ⟨nd, rfl⟩⟩))
      all_goals (
        go_wp2_with (fail)
        (with_reducible refine (squelchref30_Right.calls K3 11 a 0 0 0 ⟨#[]⟩ x y ⟨#[]⟩ rb _ HR.out).mono ?_)
        rintro r v3 ⟨rfl, hd⟩
        have HQ3 : Aside0 (PX w gw g csw #[.int .i64 11, .int .i64 a, .int .i64 0, .int .i64 0, .int .i64 0, .string ⟨#[]⟩, .int .i64 x, .int .i64 y, .string ⟨#[]⟩] v3) := by
          refine ⟨PX_to' hd ?_⟩
          apply Exists.intro
          apply And.intro
          · repeat (first | exact HQ2.out | apply PX_set | apply PX_drewN | apply PX_drew)
          · rfl
        clear HQ2 hd m0 m1 m2 m3 m4 m5 m6 m7 m8
        obtain ⟨k0, k1, k2, k3, k4, k5, k6, k7, k8⟩ := cells9 HQ3.out.e
        cases rb with
        | false =>
          obtain ⟨rfl, rfl⟩ := (show o = rV 0 0 0 0 0 ⟨#[]⟩ 0 0 ⟨#[]⟩ ∧ ok = false from HO.out.elim (fun h => absurd (And.intro h.1 h.2.1) (fun h => Bool.false_ne_true h.1)) (fun h => h.2))
          obtain ⟨i0, i1, i2, i3, i4, i5, i6, i7, i8⟩ := cells9 HQ3.out.r
          have f0 := Lib.frozen_of_heap HQ3.out.r 0
          have f1 := Lib.frozen_of_heap HQ3.out.r 1
          have f2 := Lib.frozen_of_heap HQ3.out.r 2
          have f3 := Lib.frozen_of_heap HQ3.out.r 3
          have f4 := Lib.frozen_of_heap HQ3.out.r 4
          have f5 := Lib.frozen_of_heap HQ3.out.r 5
          have f6 := Lib.frozen_of_heap HQ3.out.r 6
          have f7 := Lib.frozen_of_heap HQ3.out.r 7
          have f8 := Lib.frozen_of_heap HQ3.out.r 8
          go_wp2_with (fail)
          refine bodyPost_ret (results_ct rfl _ _ w.heap.size 31 #[.int .i64 0, .int .i64 0, .int .i64 0, .int .i64 0, .int .i64 0, .string ⟨#[]⟩, .int .i64 0, .int .i64 0, .string ⟨#[]⟩] (0, 0) _ rfl ?hc Tryz.underlying31 rfl (by kernel_rfl)) rfl ?_
          case hc => exact nine_set HQ3.out.r
          exact ⟨rfl, below_sets9 HQ3.out.b (Nat.le_refl _) _ _ _ _ _ _ _ _ _⟩
        | true =>
          go_wp2_with (fail)
          (with_reducible refine (squelchref30_Print.calls 11 a 0 0 0 ⟨#[]⟩ x y ⟨#[]⟩ p _ (HP.out (by first | rfl | trivial))).mono ?_)
          rintro r v4 ⟨rfl, hd⟩
          have HQ4 := Aside0.mk (PX_below HQ3.out hd)
          clear HQ3 hd k0 k1 k2 k3 k4 k5 k6 k7 k8
          obtain ⟨k0, k1, k2, k3, k4, k5, k6, k7, k8⟩ := cells9 HQ4.out.e
          by_cases hq : p = s
          · obtain ⟨rfl, rfl⟩ := (show o = rV 11 a 0 0 0 ⟨#[]⟩ x y ⟨#[]⟩ ∧ ok = true from HO.out.elim (fun h => h.2.2) (fun h => absurd hq (fun e => h.1 ⟨by first | rfl | trivial, e⟩)))
            subst hq
            obtain ⟨i0, i1, i2, i3, i4, i5, i6, i7, i8⟩ := cells9 HQ4.out.r
            have f0 := Lib.frozen_of_heap HQ4.out.r 0
            have f1 := Lib.frozen_of_heap HQ4.out.r 1
            have f2 := Lib.frozen_of_heap HQ4.out.r 2
            have f3 := Lib.frozen_of_heap HQ4.out.r 3
            have f4 := Lib.frozen_of_heap HQ4.out.r 4
            have f5 := Lib.frozen_of_heap HQ4.out.r 5
            have f6 := Lib.frozen_of_heap HQ4.out.r 6
            have f7 := Lib.frozen_of_heap HQ4.out.r 7
            have f8 := Lib.frozen_of_heap HQ4.out.r 8
            go_wp2_with (fail)
            refine bodyPost_ret (results_ct rfl _ _ w.heap.size 31 #[.int .i64 11, .int .i64 a, .int .i64 0, .int .i64 0, .int .i64 0, .string ⟨#[]⟩, .int .i64 x, .int .i64 y, .string ⟨#[]⟩] (0, 0) _ rfl ?hc Tryz.underlying31 rfl (by kernel_rfl)) rfl ?_
            case hc => exact nine_set HQ4.out.r
            exact ⟨rfl, below_sets9 HQ4.out.b (Nat.le_refl _) _ _ _ _ _ _ _ _ _⟩
          · have hne : (p.toList == s.toList) = false := toList_ne hq
            obtain ⟨rfl, rfl⟩ := (show o = rV 0 0 0 0 0 ⟨#[]⟩ 0 0 ⟨#[]⟩ ∧ ok = false from HO.out.elim (fun h => absurd (And.intro h.1 h.2.1) (fun h => hq h.2)) (fun h => h.2))
            obtain ⟨i0, i1, i2, i3, i4, i5, i6, i7, i8⟩ := cells9 HQ4.out.r
            have f0 := Lib.frozen_of_heap HQ4.out.r 0
            have f1 := Lib.frozen_of_heap HQ4.out.r 1
            have f2 := Lib.frozen_of_heap HQ4.out.r 2
            have f3 := Lib.frozen_of_heap HQ4.out.r 3
            have f4 := Lib.frozen_of_heap HQ4.out.r 4
            have f5 := Lib.frozen_of_heap HQ4.out.r 5
            have f6 := Lib.frozen_of_heap HQ4.out.r 6
            have f7 := Lib.frozen_of_heap HQ4.out.r 7
            have f8 := Lib.frozen_of_heap HQ4.out.r 8
            go_wp2_with (fail)
            refine bodyPost_ret (results_ct rfl _ _ w.heap.size 31 #[.int .i64 0, .int .i64 0, .int .i64 0, .int .i64 0, .int .i64 0, .string ⟨#[]⟩, .int .i64 0, .int .i64 0, .string ⟨#[]⟩] (0, 0) _ rfl ?hc Tryz.underlying31 rfl (by kernel_rfl)) rfl ?_
            case hc => exact nine_set HQ4.out.r
            exact ⟨rfl, below_sets9 HQ4.out.b (Nat.le_refl _) _ _ _ _ _ _ _ _ _⟩)
end Go.Proofs.YtndgaeldndgioaaGreatDoor.QAll
end

section
/- squelchref30.Parse, walked by hand: a line of no kind, or of another length. -/
set_option linter.unusedVariables false
set_option linter.unusedSimpArgs false
namespace Go.Proofs.YtndgaeldndgioaaGreatDoor.QAll
open Go.RowKit Go.Proofs.YtndgaeldndgioaaGreatDoorW.PrintWords Go.Proofs.YtndgaeldndgioaaGreatDoorW.PrintLast Go.Proofs.YtndgaeldndgioaaGreatDoorW.PrintMore
set_option maxHeartbeats 16000000 in
set_option maxRecDepth 100000 in
theorem rparse_zero (s l0 : ByteArray) (ws : List ByteArray) (K1 : Nat) (w : World) (hw : squelchref30_words.f K1 s = some (l0 :: ws)) (hk : kindUp l0 11 = 0) :
    Calls Tryz.prog 8 #[.string s] w fun r w' => r = .returned (.tuple #[rV 0 0 0 0 0 ⟨#[]⟩ 0 0 ⟨#[]⟩, .bool false]) ∧ Below w.heap.size w w' := by
  have HW := Aside0.mk hw
  have HK := Aside0.mk hk
  clear hw hk
  go_enter Tryz.func8, Tryz.ntmps8
  go_wp2_with (fail)
  (with_reducible refine (words_at K1 s _ _ HW.out (by simp)).mono ?_)
  rintro e w2 ⟨⟨gw, cw, csw, rfl, hgw, hbw, hcw⟩, hb2⟩
  have HB2 := Aside0.mk (below_step ((Below.refl w.heap.size w).alloc (Nat.le_refl _) _) hb2)
  have HX2 := Aside0.mk ((hb2.block w.heap.size (by simp)).trans (heap_alloc_new w _))
  have HWb := Aside0.mk hbw
  have HCw := Aside0.mk hcw
  have hgw' : w.heap.size < gw := Nat.lt_of_lt_of_le (by simp) hgw
  have hlt2 : gw < w2.heap.size := lt_of_some hbw
  clear hb2 hbw hcw hgw
  have HQ := Aside0.mk (show PX w gw w2.heap.size csw #[.int .i64 0, .int .i64 0, .int .i64 0, .int .i64 0, .int .i64 0, .string ⟨#[]⟩, .int .i64 0, .int .i64 0, .string ⟨#[]⟩] (w2.alloc (.cells #[.int .i64 0, .int .i64 0, .int .i64 0, .int .i64 0, .int .i64 0, .string ⟨#[]⟩, .int .i64 0, .int .i64 0, .string ⟨#[]⟩] 31 (0, 0))) from ⟨below_alloc HB2.out _, (Below.heap_alloc _ _ _ (Nat.lt_trans hgw' hlt2)).trans HX2.out, (Below.heap_alloc _ _ _ hlt2).trans HWb.out, heap_alloc_new _ _, hgw', hlt2⟩)
  clear HB2 HX2 HWb
  go_wp2_with (fail)
  (with_reducible refine (names_bl _).mono ?_)
  rintro e w3 ⟨⟨gn, cn, csn, rfl, hgn, hbn, hcn⟩, hb3⟩
  have HQ3 := Aside0.mk (PX_below HQ.out hb3)
  have HNb := Aside0.mk hbn
  have HCn := Aside0.mk hcn
  have hgn' : w2.heap.size < gn := Nat.lt_of_lt_of_le (by simp) hgn
  clear hb3 HQ hbn hcn hgn
  generalize w2.heap.size = g at HQ3 hgn' hlt2 ⊢
  go_wp2_with (fail)
  go_loopw [7] (fun v7 wr => ∃ (j : Nat), j ≤ 11 ∧ v7 = .int .i64 ((j : Int) + 1) ∧ Aside0 (PX w gw g csw #[.int .i64 (kindUp l0 j : Int), .int .i64 0, .int .i64 0, .int .i64 0, .int .i64 0, .string ⟨#[]⟩, .int .i64 0, .int .i64 0, .string ⟨#[]⟩] wr) ∧ Aside0 (wr.heap[gn]? = some (.cells csn 9 (0, 0)))) (fun v7 _ => 12 - (intOf v7).toNat)
  case atStart => exact ⟨0, by omega, rfl, HQ3, HNb⟩
  case round =>
    obtain ⟨j, hj, rfl, HQj, HNj⟩ := hrel
    clear HQ3 HNb
    have hw0 := cell_of HQj.out.w (HCw.out 0 l0 rfl)
    by_cases hlt : j < 11
    · have hn0 := cell_of HNj.out (HCn.out (j + 1) (nameOf (j + 1)) (by unfold nameOf; rw [List.getD_eq_getElem?_getD, List.getElem?_eq_getElem (show j + 1 < namesL.length by show j + 1 < 12; omega)]; rfl))
      have hj0 : (0 ≤ (j : Int) + 1) = True := eq_true (by omega)
      have hj1 : ((j : Int) + 1 < 12) = True := eq_true (by omega)
      by_cases hq : nameOf (j + 1) = l0
      · have hqb : ((nameOf (j + 1)).toList == l0.toList) = true := by rw [hq]; exact beq_self_eq_true _
        have hup : kindUp l0 (j + 1) = j + 1 := by rw [kindUp, if_pos hq]
        have he0 := cell_of HQj.out.e (j := 0) rfl
        have hf0 := Lib.frozen_of_heap HQj.out.e 0
        go_wp2_with (fail)
        go_region_with (fail)
        all_goals go_wp2_with (fail)
        all_goals (go_roundw; (case rel => exact ⟨j + 1, by omega, rfl, ⟨by rw [hup]; repeat (first | exact PX_set HQj.out 0 _ | apply PX_drew)⟩, ⟨(set_ne HNj.out (show ¬ g = gn by omega) 0 _)⟩⟩); (case measure => simp [intOf]; omega))
      · have hqb : ((nameOf (j + 1)).toList == l0.toList) = false := beq_eq_false_iff_ne.2 (fun h => hq (by
          rw [Go.ByteArray.toList_eq, Go.ByteArray.toList_eq] at h
          generalize nameOf (j + 1) = nm at h
          cases nm; cases l0
          congr 1
          exact Array.ext' h))
        have hup : kindUp l0 (j + 1) = kindUp l0 j := by rw [kindUp, if_neg hq]
        go_wp2_with (fail)
        go_region_with (fail)
        all_goals go_wp2_with (fail)
        all_goals (go_roundw; (case rel => exact ⟨j + 1, by omega, rfl, ⟨by rw [hup]; repeat (first | exact HQj.out | apply PX_drew)⟩, ⟨HNj.out⟩⟩); (case measure => simp [intOf]; omega))
    · obtain rfl : j = 11 := by omega
      rw [HK.out] at HQj
      have HQ4 := Aside0.mk (show PX w gw g csw #[.int .i64 0, .int .i64 0, .int .i64 0, .int .i64 0, .int .i64 0, .string ⟨#[]⟩, .int .i64 0, .int .i64 0, .string ⟨#[]⟩] wr from HQj.out)
      have HQ0 := Aside0.mk (PX_alloc HQ4.out (.cells #[.int .i64 0, .int .i64 3, .int .i64 3, .int .i64 2, .int .i64 2, .int .i64 3, .int .i64 5, .int .i64 3, .int .i64 3, .int .i64 5, .int .i64 4, .int .i64 4] 3 (0, 0)))
      have HN5 := Aside0.mk (heap_alloc_new wr (.cells #[.int .i64 0, .int .i64 3, .int .i64 3, .int .i64 2, .int .i64 2, .int .i64 3, .int .i64 5, .int .i64 3, .int .i64 3, .int .i64 5, .int .i64 4, .int .i64 4] 3 (0, 0)))
      generalize hw6 : wr.alloc (.cells #[.int .i64 0, .int .i64 3, .int .i64 3, .int .i64 2, .int .i64 2, .int .i64 3, .int .i64 5, .int .i64 3, .int .i64 3, .int .i64 5, .int .i64 4, .int .i64 4] 3 (0, 0)) = v0 at HQ0 HN5
      clear HQj HQ4 HNj hw0
      obtain ⟨k0, k1, k2, k3, k4, k5, k6, k7, k8⟩ := cells9 HQ0.out.e
      obtain ⟨i0, i1, i2, i3, i4, i5, i6, i7, i8⟩ := cells9 HQ0.out.r
      have f0 := Lib.frozen_of_heap HQ0.out.r 0
      have f1 := Lib.frozen_of_heap HQ0.out.r 1
      have f2 := Lib.frozen_of_heap HQ0.out.r 2
      have f3 := Lib.frozen_of_heap HQ0.out.r 3
      have f4 := Lib.frozen_of_heap HQ0.out.r 4
      have f5 := Lib.frozen_of_heap HQ0.out.r 5
      have f6 := Lib.frozen_of_heap HQ0.out.r 6
      have f7 := Lib.frozen_of_heap HQ0.out.r 7
      have f8 := Lib.frozen_of_heap HQ0.out.r 8
      go_wp2_with (fail)
      refine bodyPost_ret (results_ct rfl _ _ w.heap.size 31 #[.int .i64 0, .int .i64 0, .int .i64 0, .int .i64 0, .int .i64 0, .string ⟨#[]⟩, .int .i64 0, .int .i64 0, .string ⟨#[]⟩] (0, 0) _ rfl ?hc Tryz.underlying31 rfl (by kernel_rfl)) rfl ?_
      case hc => exact nine_set HQ0.out.r
      exact ⟨rfl, below_sets9 HQ0.out.b (Nat.le_refl _) _ _ _ _ _ _ _ _ _⟩
set_option maxHeartbeats 16000000 in
set_option maxRecDepth 100000 in
theorem rparse_len (s l0 : ByteArray) (ws : List ByteArray) (K1 : Nat) (w : World) (hw : squelchref30_words.f K1 s = some (l0 :: ws)) (k : Nat) (hk : kindUp l0 11 = k) (hk0 : 0 < k) (hk12 : k < 12) (hl : ws.length + 1 ≠ needN k) (hz : ws.length ≤ 1000000) :
    Calls Tryz.prog 8 #[.string s] w fun r w' => r = .returned (.tuple #[rV 0 0 0 0 0 ⟨#[]⟩ 0 0 ⟨#[]⟩, .bool false]) ∧ Below w.heap.size w w' := by
  have HW := Aside0.mk hw
  have HK := Aside0.mk hk
  clear hw hk
  go_enter Tryz.func8, Tryz.ntmps8
  go_wp2_with (fail)
  (with_reducible refine (words_at K1 s _ _ HW.out (by simp)).mono ?_)
  rintro e w2 ⟨⟨gw, cw, csw, rfl, hgw, hbw, hcw⟩, hb2⟩
  have HB2 := Aside0.mk (below_step ((Below.refl w.heap.size w).alloc (Nat.le_refl _) _) hb2)
  have HX2 := Aside0.mk ((hb2.block w.heap.size (by simp)).trans (heap_alloc_new w _))
  have HWb := Aside0.mk hbw
  have HCw := Aside0.mk hcw
  have hgw' : w.heap.size < gw := Nat.lt_of_lt_of_le (by simp) hgw
  have hlt2 : gw < w2.heap.size := lt_of_some hbw
  clear hb2 hbw hcw hgw
  have HQ := Aside0.mk (show PX w gw w2.heap.size csw #[.int .i64 0, .int .i64 0, .int .i64 0, .int .i64 0, .int .i64 0, .string ⟨#[]⟩, .int .i64 0, .int .i64 0, .string ⟨#[]⟩] (w2.alloc (.cells #[.int .i64 0, .int .i64 0, .int .i64 0, .int .i64 0, .int .i64 0, .string ⟨#[]⟩, .int .i64 0, .int .i64 0, .string ⟨#[]⟩] 31 (0, 0))) from ⟨below_alloc HB2.out _, (Below.heap_alloc _ _ _ (Nat.lt_trans hgw' hlt2)).trans HX2.out, (Below.heap_alloc _ _ _ hlt2).trans HWb.out, heap_alloc_new _ _, hgw', hlt2⟩)
  clear HB2 HX2 HWb
  go_wp2_with (fail)
  (with_reducible refine (names_bl _).mono ?_)
  rintro e w3 ⟨⟨gn, cn, csn, rfl, hgn, hbn, hcn⟩, hb3⟩
  have HQ3 := Aside0.mk (PX_below HQ.out hb3)
  have HNb := Aside0.mk hbn
  have HCn := Aside0.mk hcn
  have hgn' : w2.heap.size < gn := Nat.lt_of_lt_of_le (by simp) hgn
  clear hb3 HQ hbn hcn hgn
  generalize w2.heap.size = g at HQ3 hgn' hlt2 ⊢
  go_wp2_with (fail)
  go_loopw [7] (fun v7 wr => ∃ (j : Nat), j ≤ 11 ∧ v7 = .int .i64 ((j : Int) + 1) ∧ Aside0 (PX w gw g csw #[.int .i64 (kindUp l0 j : Int), .int .i64 0, .int .i64 0, .int .i64 0, .int .i64 0, .string ⟨#[]⟩, .int .i64 0, .int .i64 0, .string ⟨#[]⟩] wr) ∧ Aside0 (wr.heap[gn]? = some (.cells csn 9 (0, 0)))) (fun v7 _ => 12 - (intOf v7).toNat)
  case atStart => exact ⟨0, by omega, rfl, HQ3, HNb⟩
  case round =>
    obtain ⟨j, hj, rfl, HQj, HNj⟩ := hrel
    clear HQ3 HNb
    have hw0 := cell_of HQj.out.w (HCw.out 0 l0 rfl)
    by_cases hlt : j < 11
    · have hn0 := cell_of HNj.out (HCn.out (j + 1) (nameOf (j + 1)) (by unfold nameOf; rw [List.getD_eq_getElem?_getD, List.getElem?_eq_getElem (show j + 1 < namesL.length by show j + 1 < 12; omega)]; rfl))
      have hj0 : (0 ≤ (j : Int) + 1) = True := eq_true (by omega)
      have hj1 : ((j : Int) + 1 < 12) = True := eq_true (by omega)
      by_cases hq : nameOf (j + 1) = l0
      · have hqb : ((nameOf (j + 1)).toList == l0.toList) = true := by rw [hq]; exact beq_self_eq_true _
        have hup : kindUp l0 (j + 1) = j + 1 := by rw [kindUp, if_pos hq]
        have he0 := cell_of HQj.out.e (j := 0) rfl
        have hf0 := Lib.frozen_of_heap HQj.out.e 0
        go_wp2_with (fail)
        go_region_with (fail)
        all_goals go_wp2_with (fail)
        all_goals (go_roundw; (case rel => exact ⟨j + 1, by omega, rfl, ⟨by rw [hup]; repeat (first | exact PX_set HQj.out 0 _ | apply PX_drew)⟩, ⟨(set_ne HNj.out (show ¬ g = gn by omega) 0 _)⟩⟩); (case measure => simp [intOf]; omega))
      · have hqb : ((nameOf (j + 1)).toList == l0.toList) = false := beq_eq_false_iff_ne.2 (fun h => hq (by
          rw [Go.ByteArray.toList_eq, Go.ByteArray.toList_eq] at h
          generalize nameOf (j + 1) = nm at h
          cases nm; cases l0
          congr 1
          exact Array.ext' h))
        have hup : kindUp l0 (j + 1) = kindUp l0 j := by rw [kindUp, if_neg hq]
        go_wp2_with (fail)
        go_region_with (fail)
        all_goals go_wp2_with (fail)
        all_goals (go_roundw; (case rel => exact ⟨j + 1, by omega, rfl, ⟨by rw [hup]; repeat (first | exact HQj.out | apply PX_drew)⟩, ⟨HNj.out⟩⟩); (case measure => simp [intOf]; omega))
    · obtain rfl : j = 11 := by omega
      rw [HK.out] at HQj
      have HQ4 := Aside0.mk (show PX w gw g csw #[.int .i64 (k : Int), .int .i64 0, .int .i64 0, .int .i64 0, .int .i64 0, .string ⟨#[]⟩, .int .i64 0, .int .i64 0, .string ⟨#[]⟩] wr from HQj.out)
      have HQ0 := Aside0.mk (PX_alloc HQ4.out (.cells #[.int .i64 0, .int .i64 3, .int .i64 3, .int .i64 2, .int .i64 2, .int .i64 3, .int .i64 5, .int .i64 3, .int .i64 3, .int .i64 5, .int .i64 4, .int .i64 4] 3 (0, 0)))
      have HN5 := Aside0.mk (heap_alloc_new wr (.cells #[.int .i64 0, .int .i64 3, .int .i64 3, .int .i64 2, .int .i64 2, .int .i64 3, .int .i64 5, .int .i64 3, .int .i64 3, .int .i64 5, .int .i64 4, .int .i64 4] 3 (0, 0)))
      generalize hw6 : wr.alloc (.cells #[.int .i64 0, .int .i64 3, .int .i64 3, .int .i64 2, .int .i64 2, .int .i64 3, .int .i64 5, .int .i64 3, .int .i64 3, .int .i64 5, .int .i64 4, .int .i64 4] 3 (0, 0)) = v0 at HQ0 HN5
      clear HQj HQ4 HNj hw0
      obtain ⟨k0, k1, k2, k3, k4, k5, k6, k7, k8⟩ := cells9 HQ0.out.e
      have hn := cell_of HN5.out (needN_at k hk12)
      have hb0 : (0 ≤ (k : Int)) = True := eq_true (by omega)
      have hb1 : ((k : Int) < 12) = True := eq_true (by omega)
      have hb2 : ((k : Int) = 0) = False := eq_false (by omega)
      have hb3 : ((k : Int) == 0) = false := beq_eq_false_iff_ne.2 (by omega)
      have hb4 : ((ws.length : Int) + 1 != (needN k : Int)) = true := bne_iff_ne.2 (by omega)
      obtain ⟨i0, i1, i2, i3, i4, i5, i6, i7, i8⟩ := cells9 HQ0.out.r
      have f0 := Lib.frozen_of_heap HQ0.out.r 0
      have f1 := Lib.frozen_of_heap HQ0.out.r 1
      have f2 := Lib.frozen_of_heap HQ0.out.r 2
      have f3 := Lib.frozen_of_heap HQ0.out.r 3
      have f4 := Lib.frozen_of_heap HQ0.out.r 4
      have f5 := Lib.frozen_of_heap HQ0.out.r 5
      have f6 := Lib.frozen_of_heap HQ0.out.r 6
      have f7 := Lib.frozen_of_heap HQ0.out.r 7
      have f8 := Lib.frozen_of_heap HQ0.out.r 8
      go_wp2_with (fail)
      refine bodyPost_ret (results_ct rfl _ _ w.heap.size 31 #[.int .i64 0, .int .i64 0, .int .i64 0, .int .i64 0, .int .i64 0, .string ⟨#[]⟩, .int .i64 0, .int .i64 0, .string ⟨#[]⟩] (0, 0) _ rfl ?hc Tryz.underlying31 rfl (by kernel_rfl)) rfl ?_
      case hc => exact nine_set HQ0.out.r
      exact ⟨rfl, below_sets9 HQ0.out.b (Nat.le_refl _) _ _ _ _ _ _ _ _ _⟩
end Go.Proofs.YtndgaeldndgioaaGreatDoor.QAll
end

section
/- squelchref30.Parse, walked by hand, of any line. -/
set_option linter.unusedVariables false
set_option linter.unusedSimpArgs false
namespace Go.Proofs.YtndgaeldndgioaaGreatDoor.QAll
open Go.RowKit Go.Proofs.YtndgaeldndgioaaGreatDoorW.PrintWords Go.Proofs.YtndgaeldndgioaaGreatDoorW.PrintLast Go.Proofs.YtndgaeldndgioaaGreatDoorW.PrintMore
/-- The reference's event. -/
structure Rv where
  k : Int
  a : Int
  b : Int
  n : Int
  m : Int
  s : ByteArray
  x : Int
  y : Int
  d : ByteArray
def rv0 : Rv := ⟨0, 0, 0, 0, 0, ⟨#[]⟩, 0, 0, ⟨#[]⟩⟩
def rvV (e : Rv) : Value := rV e.k e.a e.b e.n e.m e.s e.x e.y e.d
def numR (w : ByteArray) : Option Int := squelchref30_number.f 8 w
def bytR (w : ByteArray) (m : Bool) : Option ByteArray := squelchref30_bytes.f (3 * w.size + 4) w m
def readR (k : Nat) (ws : List ByteArray) : Option Rv :=
  match k, ws with
  | 1, [w1, w2] => (numR w1).bind fun a => (bytR w2 true).bind fun t => some ⟨1, a, 0, 0, 0, t, 0, 0, ⟨#[]⟩⟩
  | 2, [w1, w2] => (numR w1).bind fun a => (bytR w2 true).bind fun t => some ⟨2, a, 0, 0, 0, t, 0, 0, ⟨#[]⟩⟩
  | 3, [w1] => (numR w1).bind fun a => some ⟨3, a, 0, 0, 0, ⟨#[]⟩, 0, 0, ⟨#[]⟩⟩
  | 4, [w1] => (bytR w1 false).bind fun d => some ⟨4, 0, 0, 0, 0, ⟨#[]⟩, 0, 0, d⟩
  | 5, [w1, w2] => (numR w1).bind fun a => (numR w2).bind fun b => some ⟨5, a, b, 0, 0, ⟨#[]⟩, 0, 0, ⟨#[]⟩⟩
  | 6, [w1, w2, w3, w4] => (numR w1).bind fun a => (numR w2).bind fun b => (numR w3).bind fun n => (numR w4).bind fun m => some ⟨6, a, b, n, m, ⟨#[]⟩, 0, 0, ⟨#[]⟩⟩
  | 7, [w1, w2] => (numR w1).bind fun a => (numR w2).bind fun b => some ⟨7, a, b, 0, 0, ⟨#[]⟩, 0, 0, ⟨#[]⟩⟩
  | 8, [w1, w2] => (numR w1).bind fun a => (numR w2).bind fun b => some ⟨8, a, b, 0, 0, ⟨#[]⟩, 0, 0, ⟨#[]⟩⟩
  | 9, [w1, w2, w3, w4] => (numR w1).bind fun a => (numR w2).bind fun x => (numR w3).bind fun y => (numR w4).bind fun n => some ⟨9, a, 0, n, 0, ⟨#[]⟩, x, y, ⟨#[]⟩⟩
  | 10, [w1, w2, w3] => (numR w1).bind fun a => (numR w2).bind fun x => (numR w3).bind fun y => some ⟨10, a, 0, 0, 0, ⟨#[]⟩, x, y, ⟨#[]⟩⟩
  | 11, [w1, w2, w3] => (numR w1).bind fun a => (numR w2).bind fun x => (numR w3).bind fun y => some ⟨11, a, 0, 0, 0, ⟨#[]⟩, x, y, ⟨#[]⟩⟩
  | _, _ => none
def rightR (e : Rv) : Option Bool := squelchref30_Right.f 10 e.k e.a e.b e.n e.m e.s e.x e.y e.d
def printR (e : Rv) : Option ByteArray := squelchref30_Print.f e.k e.a e.b e.n e.m e.s e.x e.y e.d
def endR (e : Rv) (s : ByteArray) (rb : Bool) : Option (Rv × Bool) := if rb = true then (printR e).map fun p => if p = s then (e, true) else (rv0, false) else some (rv0, false)
def parseR (s : ByteArray) : Option (Rv × Bool) := (squelchref30_words.f (s.size + 2) s).bind fun ls => match ls with
  | [] => none
  | l0 :: ws => if ws.length ≤ 1000000 then (if kindUp l0 11 = 0 ∨ ws.length + 1 ≠ needN (kindUp l0 11) then some (rv0, false)
    else (readR (kindUp l0 11) ws).bind fun e => (rightR e).bind fun rb => endR e s rb) else none
theorem parse_end {e : Rv} {s : ByteArray} {rb : Bool} {out : Rv × Bool} (h : endR e s rb = some out) : ∃ p, (rb = true → printR e = some p) ∧ ((rb = true ∧ p = s ∧ rvV out.1 = rvV e ∧ out.2 = true) ∨ (¬ (rb = true ∧ p = s) ∧ rvV out.1 = rV 0 0 0 0 0 ⟨#[]⟩ 0 0 ⟨#[]⟩ ∧ out.2 = false)) := by
  unfold endR at h
  cases rb with
  | false =>
    obtain rfl := Option.some.inj h
    exact ⟨⟨#[]⟩, fun h => absurd h (by decide), Or.inr ⟨fun h => absurd h.1 (by decide), rfl, rfl⟩⟩
  | true =>
    obtain ⟨p, hp, h⟩ := Option.map_eq_some_iff.1 h
    refine ⟨p, fun _ => hp, ?_⟩
    by_cases hq : p = s
    · rw [if_pos hq] at h
      subst h
      exact Or.inl ⟨rfl, hq, rfl, rfl⟩
    · rw [if_neg hq] at h
      subst h
      exact Or.inr ⟨fun h => hq h.2, rfl, rfl⟩
theorem kindUp_le (l0 : ByteArray) : ∀ j, kindUp l0 j ≤ j
  | 0 => Nat.le_refl _
  | j + 1 => by
    rw [kindUp]
    have := kindUp_le l0 j
    split <;> omega
theorem rparse_calls (s : ByteArray) (out : Rv × Bool) (w : World) (h : parseR s = some out) :
    Calls Tryz.prog 8 #[.string s] w fun r w' => r = .returned (.tuple #[rvV out.1, .bool out.2]) ∧ Below w.heap.size w w' := by
  unfold parseR at h
  obtain ⟨ls, hw, h⟩ := Option.bind_eq_some_iff.1 h
  match ls, h with
  | l0 :: ws, h =>
  have hk := kindUp_le l0 11
  have h' : (if ws.length ≤ 1000000 then (if kindUp l0 11 = 0 ∨ ws.length + 1 ≠ needN (kindUp l0 11) then some (rv0, false) else (readR (kindUp l0 11) ws).bind fun e => (rightR e).bind fun rb => endR e s rb) else none) = some out := h
  clear h
  have h := h'
  clear h'
  by_cases hz : ws.length ≤ 1000000
  case neg => rw [if_neg hz] at h; cases h
  rw [if_pos hz] at h
  by_cases c0 : kindUp l0 11 = 0
  · rw [if_pos (Or.inl c0)] at h
    obtain rfl := Option.some.inj h
    exact rparse_zero s l0 ws (s.size + 2) w hw c0
  by_cases c1 : kindUp l0 11 = 1
  · rw [c1] at h hk
    by_cases hl : ws.length + 1 = needN 1
    · rw [if_neg (by omega)] at h
      have hl' : ws.length = 2 := by have : needN 1 = 3 := rfl; omega
      match ws, hl' with
      | [w1, w2], _ =>
        obtain ⟨e, he, h⟩ := Option.bind_eq_some_iff.1 h
        simp only [readR] at he
        obtain ⟨a, ha, he⟩ := Option.bind_eq_some_iff.1 he
        obtain ⟨t, ht, he⟩ := Option.bind_eq_some_iff.1 he
        obtain rfl := Option.some.inj he
        obtain ⟨rb, hr, h⟩ := Option.bind_eq_some_iff.1 h
        obtain ⟨p, hp, ho⟩ := parse_end h
        exact rparse1 s l0 w1 w2 (s.size + 2) 8 10 _ a t rb p _ _ w ho hw c1 ha ht hr hp
    · rw [if_pos (Or.inr hl)] at h
      obtain rfl := Option.some.inj h
      exact rparse_len s l0 ws (s.size + 2) w hw 1 c1 (by omega) (by omega) hl hz
  by_cases c2 : kindUp l0 11 = 2
  · rw [c2] at h hk
    by_cases hl : ws.length + 1 = needN 2
    · rw [if_neg (by omega)] at h
      have hl' : ws.length = 2 := by have : needN 2 = 3 := rfl; omega
      match ws, hl' with
      | [w1, w2], _ =>
        obtain ⟨e, he, h⟩ := Option.bind_eq_some_iff.1 h
        simp only [readR] at he
        obtain ⟨a, ha, he⟩ := Option.bind_eq_some_iff.1 he
        obtain ⟨t, ht, he⟩ := Option.bind_eq_some_iff.1 he
        obtain rfl := Option.some.inj he
        obtain ⟨rb, hr, h⟩ := Option.bind_eq_some_iff.1 h
        obtain ⟨p, hp, ho⟩ := parse_end h
        exact rparse2 s l0 w1 w2 (s.size + 2) 8 10 _ a t rb p _ _ w ho hw c2 ha ht hr hp
    · rw [if_pos (Or.inr hl)] at h
      obtain rfl := Option.some.inj h
      exact rparse_len s l0 ws (s.size + 2) w hw 2 c2 (by omega) (by omega) hl hz
  by_cases c3 : kindUp l0 11 = 3
  · rw [c3] at h hk
    by_cases hl : ws.length + 1 = needN 3
    · rw [if_neg (by omega)] at h
      have hl' : ws.length = 1 := by have : needN 3 = 2 := rfl; omega
      match ws, hl' with
      | [w1], _ =>
        obtain ⟨e, he, h⟩ := Option.bind_eq_some_iff.1 h
        simp only [readR] at he
        obtain ⟨a, ha, he⟩ := Option.bind_eq_some_iff.1 he
        obtain rfl := Option.some.inj he
        obtain ⟨rb, hr, h⟩ := Option.bind_eq_some_iff.1 h
        obtain ⟨p, hp, ho⟩ := parse_end h
        exact rparse3 s l0 w1 (s.size + 2) 8 10 0 a rb p _ _ w ho hw c3 ha hr hp
    · rw [if_pos (Or.inr hl)] at h
      obtain rfl := Option.some.inj h
      exact rparse_len s l0 ws (s.size + 2) w hw 3 c3 (by omega) (by omega) hl hz
  by_cases c4 : kindUp l0 11 = 4
  · rw [c4] at h hk
    by_cases hl : ws.length + 1 = needN 4
    · rw [if_neg (by omega)] at h
      have hl' : ws.length = 1 := by have : needN 4 = 2 := rfl; omega
      match ws, hl' with
      | [w1], _ =>
        obtain ⟨e, he, h⟩ := Option.bind_eq_some_iff.1 h
        simp only [readR] at he
        obtain ⟨d, hd, he⟩ := Option.bind_eq_some_iff.1 he
        obtain rfl := Option.some.inj he
        obtain ⟨rb, hr, h⟩ := Option.bind_eq_some_iff.1 h
        obtain ⟨p, hp, ho⟩ := parse_end h
        exact rparse4 s l0 w1 (s.size + 2) 8 10 _ d rb p _ _ w ho hw c4 hd hr hp
    · rw [if_pos (Or.inr hl)] at h
      obtain rfl := Option.some.inj h
      exact rparse_len s l0 ws (s.size + 2) w hw 4 c4 (by omega) (by omega) hl hz
  by_cases c5 : kindUp l0 11 = 5
  · rw [c5] at h hk
    by_cases hl : ws.length + 1 = needN 5
    · rw [if_neg (by omega)] at h
      have hl' : ws.length = 2 := by have : needN 5 = 3 := rfl; omega
      match ws, hl' with
      | [w1, w2], _ =>
        obtain ⟨e, he, h⟩ := Option.bind_eq_some_iff.1 h
        simp only [readR] at he
        obtain ⟨a, ha, he⟩ := Option.bind_eq_some_iff.1 he
        obtain ⟨b, hb, he⟩ := Option.bind_eq_some_iff.1 he
        obtain rfl := Option.some.inj he
        obtain ⟨rb, hr, h⟩ := Option.bind_eq_some_iff.1 h
        obtain ⟨p, hp, ho⟩ := parse_end h
        exact rparse5 s l0 w1 w2 (s.size + 2) 8 10 0 a b rb p _ _ w ho hw c5 ha hb hr hp
    · rw [if_pos (Or.inr hl)] at h
      obtain rfl := Option.some.inj h
      exact rparse_len s l0 ws (s.size + 2) w hw 5 c5 (by omega) (by omega) hl hz
  by_cases c6 : kindUp l0 11 = 6
  · rw [c6] at h hk
    by_cases hl : ws.length + 1 = needN 6
    · rw [if_neg (by omega)] at h
      have hl' : ws.length = 4 := by have : needN 6 = 5 := rfl; omega
      match ws, hl' with
      | [w1, w2, w3, w4], _ =>
        obtain ⟨e, he, h⟩ := Option.bind_eq_some_iff.1 h
        simp only [readR] at he
        obtain ⟨a, ha, he⟩ := Option.bind_eq_some_iff.1 he
        obtain ⟨b, hb, he⟩ := Option.bind_eq_some_iff.1 he
        obtain ⟨n, hn, he⟩ := Option.bind_eq_some_iff.1 he
        obtain ⟨m, hm, he⟩ := Option.bind_eq_some_iff.1 he
        obtain rfl := Option.some.inj he
        obtain ⟨rb, hr, h⟩ := Option.bind_eq_some_iff.1 h
        obtain ⟨p, hp, ho⟩ := parse_end h
        exact rparse6 s l0 w1 w2 w3 w4 (s.size + 2) 8 10 0 a b n m rb p _ _ w ho hw c6 ha hb hn hm hr hp
    · rw [if_pos (Or.inr hl)] at h
      obtain rfl := Option.some.inj h
      exact rparse_len s l0 ws (s.size + 2) w hw 6 c6 (by omega) (by omega) hl hz
  by_cases c7 : kindUp l0 11 = 7
  · rw [c7] at h hk
    by_cases hl : ws.length + 1 = needN 7
    · rw [if_neg (by omega)] at h
      have hl' : ws.length = 2 := by have : needN 7 = 3 := rfl; omega
      match ws, hl' with
      | [w1, w2], _ =>
        obtain ⟨e, he, h⟩ := Option.bind_eq_some_iff.1 h
        simp only [readR] at he
        obtain ⟨a, ha, he⟩ := Option.bind_eq_some_iff.1 he
        obtain ⟨b, hb, he⟩ := Option.bind_eq_some_iff.1 he
        obtain rfl := Option.some.inj he
        obtain ⟨rb, hr, h⟩ := Option.bind_eq_some_iff.1 h
        obtain ⟨p, hp, ho⟩ := parse_end h
        exact rparse7 s l0 w1 w2 (s.size + 2) 8 10 0 a b rb p _ _ w ho hw c7 ha hb hr hp
    · rw [if_pos (Or.inr hl)] at h
      obtain rfl := Option.some.inj h
      exact rparse_len s l0 ws (s.size + 2) w hw 7 c7 (by omega) (by omega) hl hz
  by_cases c8 : kindUp l0 11 = 8
  · rw [c8] at h hk
    by_cases hl : ws.length + 1 = needN 8
    · rw [if_neg (by omega)] at h
      have hl' : ws.length = 2 := by have : needN 8 = 3 := rfl; omega
      match ws, hl' with
      | [w1, w2], _ =>
        obtain ⟨e, he, h⟩ := Option.bind_eq_some_iff.1 h
        simp only [readR] at he
        obtain ⟨a, ha, he⟩ := Option.bind_eq_some_iff.1 he
        obtain ⟨b, hb, he⟩ := Option.bind_eq_some_iff.1 he
        obtain rfl := Option.some.inj he
        obtain ⟨rb, hr, h⟩ := Option.bind_eq_some_iff.1 h
        obtain ⟨p, hp, ho⟩ := parse_end h
        exact rparse8 s l0 w1 w2 (s.size + 2) 8 10 0 a b rb p _ _ w ho hw c8 ha hb hr hp
    · rw [if_pos (Or.inr hl)] at h
      obtain rfl := Option.some.inj h
      exact rparse_len s l0 ws (s.size + 2) w hw 8 c8 (by omega) (by omega) hl hz
  by_cases c9 : kindUp l0 11 = 9
  · rw [c9] at h hk
    by_cases hl : ws.length + 1 = needN 9
    · rw [if_neg (by omega)] at h
      have hl' : ws.length = 4 := by have : needN 9 = 5 := rfl; omega
      match ws, hl' with
      | [w1, w2, w3, w4], _ =>
        obtain ⟨e, he, h⟩ := Option.bind_eq_some_iff.1 h
        simp only [readR] at he
        obtain ⟨a, ha, he⟩ := Option.bind_eq_some_iff.1 he
        obtain ⟨x, hx, he⟩ := Option.bind_eq_some_iff.1 he
        obtain ⟨y, hy, he⟩ := Option.bind_eq_some_iff.1 he
        obtain ⟨n, hn, he⟩ := Option.bind_eq_some_iff.1 he
        obtain rfl := Option.some.inj he
        obtain ⟨rb, hr, h⟩ := Option.bind_eq_some_iff.1 h
        obtain ⟨p, hp, ho⟩ := parse_end h
        exact rparse9 s l0 w1 w2 w3 w4 (s.size + 2) 8 10 0 a x y n rb p _ _ w ho hw c9 ha hx hy hn hr hp
    · rw [if_pos (Or.inr hl)] at h
      obtain rfl := Option.some.inj h
      exact rparse_len s l0 ws (s.size + 2) w hw 9 c9 (by omega) (by omega) hl hz
  by_cases c10 : kindUp l0 11 = 10
  · rw [c10] at h hk
    by_cases hl : ws.length + 1 = needN 10
    · rw [if_neg (by omega)] at h
      have hl' : ws.length = 3 := by have : needN 10 = 4 := rfl; omega
      match ws, hl' with
      | [w1, w2, w3], _ =>
        obtain ⟨e, he, h⟩ := Option.bind_eq_some_iff.1 h
        simp only [readR] at he
        obtain ⟨a, ha, he⟩ := Option.bind_eq_some_iff.1 he
        obtain ⟨x, hx, he⟩ := Option.bind_eq_some_iff.1 he
        obtain ⟨y, hy, he⟩ := Option.bind_eq_some_iff.1 he
        obtain rfl := Option.some.inj he
        obtain ⟨rb, hr, h⟩ := Option.bind_eq_some_iff.1 h
        obtain ⟨p, hp, ho⟩ := parse_end h
        exact rparse10 s l0 w1 w2 w3 (s.size + 2) 8 10 0 a x y rb p _ _ w ho hw c10 ha hx hy hr hp
    · rw [if_pos (Or.inr hl)] at h
      obtain rfl := Option.some.inj h
      exact rparse_len s l0 ws (s.size + 2) w hw 10 c10 (by omega) (by omega) hl hz
  by_cases c11 : kindUp l0 11 = 11
  · rw [c11] at h hk
    by_cases hl : ws.length + 1 = needN 11
    · rw [if_neg (by omega)] at h
      have hl' : ws.length = 3 := by have : needN 11 = 4 := rfl; omega
      match ws, hl' with
      | [w1, w2, w3], _ =>
        obtain ⟨e, he, h⟩ := Option.bind_eq_some_iff.1 h
        simp only [readR] at he
        obtain ⟨a, ha, he⟩ := Option.bind_eq_some_iff.1 he
        obtain ⟨x, hx, he⟩ := Option.bind_eq_some_iff.1 he
        obtain ⟨y, hy, he⟩ := Option.bind_eq_some_iff.1 he
        obtain rfl := Option.some.inj he
        obtain ⟨rb, hr, h⟩ := Option.bind_eq_some_iff.1 h
        obtain ⟨p, hp, ho⟩ := parse_end h
        exact rparse11 s l0 w1 w2 w3 (s.size + 2) 8 10 0 a x y rb p _ _ w ho hw c11 ha hx hy hr hp
    · rw [if_pos (Or.inr hl)] at h
      obtain rfl := Option.some.inj h
      exact rparse_len s l0 ws (s.size + 2) w hw 11 c11 (by omega) (by omega) hl hz
  omega
end Go.Proofs.YtndgaeldndgioaaGreatDoor.QAll
end

section
/- The reference's Right, Print and reading, plainly, by kinds. -/
set_option linter.unusedVariables false
set_option linter.unusedSimpArgs false
set_option maxHeartbeats 1000000
namespace Go.Proofs.YtndgaeldndgioaaGreatDoor.Pure
open Go.RowKit Go.Proofs.YtndgaeldndgioaaGreatDoor.QAll Go.Proofs.YtndgaeldndgioaaGreatDoorW.PrintWords Go.Proofs.YtndgaeldndgioaaGreatDoorW.PrintLast
theorem fits_f (v : Int) : squelchref30_fits.f v = some (fitsB v) := by
  unfold squelchref30_fits.f fitsB
  by_cases h : v ≥ -9999
  · rw [if_pos h, decide_eq_true h, Bool.true_and]
  · rw [if_neg h, decide_eq_false h, Bool.false_and]
theorem fits_0 : fitsB 0 = true := by decide
theorem right_a (k : Int) (hk : k = 1 ∨ k = 2) (a : Int) (s : ByteArray) : squelchref30_Right.f 10 k a 0 0 0 s 0 0 ⟨#[]⟩ = some (fitsB a && decide (s.size ≤ 300)) := by
  have he : (⟨#[]⟩ : ByteArray).toList = [] := by rw [Go.ByteArray.toList_eq]
  have hz : (⟨#[]⟩ : ByteArray).size = 0 := rfl
  rcases hk with rfl | rfl <;> (
    simp only [squelchref30_Right.f, fits_f, fits_0, Option.bind_some, squelchref30_Right.j0, squelchref30_Right.j1, hz, he]
    cases fitsB a with
    | false => rfl
    | true =>
      by_cases hs : s.size ≤ 300
      · rw [decide_eq_true hs]
        have : ¬ ((s.size : Int) > 300) := by omega
        simp [this]
      · rw [decide_eq_false hs]
        have : ((s.size : Int) > 300) := by omega
        simp [this])
theorem right_3 (a : Int) : squelchref30_Right.f 10 3 a 0 0 0 ⟨#[]⟩ 0 0 ⟨#[]⟩ = some (fitsB a) := by
  have he : (⟨#[]⟩ : ByteArray).toList = [] := by rw [Go.ByteArray.toList_eq]
  have hz : (⟨#[]⟩ : ByteArray).size = 0 := rfl
  simp only [squelchref30_Right.f, fits_f, fits_0, Option.bind_some, squelchref30_Right.j0, squelchref30_Right.j1, hz, he]
  cases fitsB a <;> simp
theorem right_4 (d : ByteArray) : squelchref30_Right.f 10 4 0 0 0 0 ⟨#[]⟩ 0 0 d = some (decide (d.size ≤ 16)) := by
  have he : (⟨#[]⟩ : ByteArray).toList = [] := by rw [Go.ByteArray.toList_eq]
  have hz : (⟨#[]⟩ : ByteArray).size = 0 := rfl
  simp only [squelchref30_Right.f, fits_f, fits_0, Option.bind_some, squelchref30_Right.j0, squelchref30_Right.j1, hz, he]
  by_cases hs : d.size ≤ 16
  · have : ¬ ((d.size : Int) > 16) := by omega
    simp [this, hs]
  · have : ((d.size : Int) > 16) := by omega
    simp [this, hs]
theorem right_b (k : Int) (hk : k = 5 ∨ k = 7 ∨ k = 8) (a b : Int) : squelchref30_Right.f 10 k a b 0 0 ⟨#[]⟩ 0 0 ⟨#[]⟩ = some (fitsB a && fitsB b) := by
  have he : (⟨#[]⟩ : ByteArray).toList = [] := by rw [Go.ByteArray.toList_eq]
  have hz : (⟨#[]⟩ : ByteArray).size = 0 := rfl
  rcases hk with rfl | rfl | rfl <;> (
    simp only [squelchref30_Right.f, fits_f, fits_0, Option.bind_some, squelchref30_Right.j0, squelchref30_Right.j1, hz, he]
    cases fitsB a <;> cases fitsB b <;> simp)
theorem right_6 (a b n m : Int) : squelchref30_Right.f 10 6 a b n m ⟨#[]⟩ 0 0 ⟨#[]⟩ = some (fitsB a && fitsB b && fitsB n && fitsB m) := by
  have he : (⟨#[]⟩ : ByteArray).toList = [] := by rw [Go.ByteArray.toList_eq]
  have hz : (⟨#[]⟩ : ByteArray).size = 0 := rfl
  simp only [squelchref30_Right.f, fits_f, fits_0, Option.bind_some, squelchref30_Right.j0, squelchref30_Right.j1, hz, he]
  cases fitsB a <;> cases fitsB b <;> cases fitsB n <;> cases fitsB m <;> simp
theorem right_9 (a n x y : Int) : squelchref30_Right.f 10 9 a 0 n 0 ⟨#[]⟩ x y ⟨#[]⟩ = some (fitsB a && fitsB x && fitsB y && fitsB n) := by
  have he : (⟨#[]⟩ : ByteArray).toList = [] := by rw [Go.ByteArray.toList_eq]
  have hz : (⟨#[]⟩ : ByteArray).size = 0 := rfl
  simp only [squelchref30_Right.f, fits_f, fits_0, Option.bind_some, squelchref30_Right.j0, squelchref30_Right.j1, hz, he]
  cases fitsB a <;> cases fitsB n <;> cases fitsB x <;> cases fitsB y <;> simp
theorem right_c (k : Int) (hk : k = 10 ∨ k = 11) (a x y : Int) : squelchref30_Right.f 10 k a 0 0 0 ⟨#[]⟩ x y ⟨#[]⟩ = some (fitsB a && fitsB x && fitsB y) := by
  have he : (⟨#[]⟩ : ByteArray).toList = [] := by rw [Go.ByteArray.toList_eq]
  have hz : (⟨#[]⟩ : ByteArray).size = 0 := rfl
  rcases hk with rfl | rfl <;> (
    simp only [squelchref30_Right.f, fits_f, fits_0, Option.bind_some, squelchref30_Right.j0, squelchref30_Right.j1, hz, he]
    cases fitsB a <;> cases fitsB x <;> cases fitsB y <;> simp)
theorem numR_some (w : ByteArray) : ∃ v, numR w = some v := by
  have h : ∀ (d i K : Nat) (n sg : Int), w.size ≤ 5 → w.size - i ≤ d → d + 1 ≤ K → i ≤ w.size → ∃ v, squelchref30_number.l0 K w n sg (i : Int) = some v := by
    intro d
    induction d with
    | zero =>
      intro i K n sg hw hd hK hi
      obtain ⟨K, rfl⟩ : ∃ k, K = k + 1 := ⟨K - 1, by omega⟩
      rw [squelchref30_number.l0, if_neg (by omega)]
      exact ⟨_, rfl⟩
    | succ d ih =>
      intro i K n sg hw hd hK hi
      obtain ⟨K, rfl⟩ : ∃ k, K = k + 1 := ⟨K - 1, by omega⟩
      rw [squelchref30_number.l0]
      by_cases hlt : i < w.size
      · rw [if_pos (by omega), if_pos (by omega), wrap_lit i 1 1 rfl (by omega)]
        split
        · exact ih (i + 1) K _ _ hw (by omega) (by omega) (by omega)
        · exact ih (i + 1) K _ _ hw (by omega) (by omega) (by omega)
      · rw [if_neg (by omega)]
        exact ⟨_, rfl⟩
  unfold numR squelchref30_number.f
  by_cases hw : w.size ≤ 5
  · rw [if_neg (by omega)]
    exact h w.size 0 8 0 1 hw (by omega) (by omega) (by omega)
  · rw [if_pos (by omega)]
    exact ⟨_, rfl⟩
theorem bytR_some (w : ByteArray) (m : Bool) (h : w.size ≤ 1000000) : ∃ r, bytR w m = some r := bytes_some w h m w.size (3 * w.size + 4) 1 [] (by omega) (by omega) (by omega) (by simp)
theorem numR_itoa (v : Int) (h : -9999 ≤ v ∧ v ≤ 9999) : numR (itoaB v) = some v := num_ref v h.1 h.2
theorem drop_one (c : UInt8) (t : ByteArray) : ((⟨#[c]⟩ : ByteArray) ++ t).toList.drop 1 = t.toList := by
  rw [toList_app, Go.ByteArray.toList_eq ⟨#[c]⟩]
  rfl
theorem bytR_esc (s : ByteArray) (h : s.size ≤ 2000) : bytR (⟨#[61]⟩ ++ escS s) true = some s := by
  have h1 : (⟨#[61]⟩ : ByteArray).size = 1 := rfl
  have hz := esc_size s
  have hl := esc_len s
  have hsz : ((⟨#[61]⟩ : ByteArray) ++ escS s).size = 1 + (escS s).size := by rw [ByteArray.size_append, h1]
  have := bytes_all (⟨#[61]⟩ ++ escS s) (by omega) (bytesOf s) (3 * ((⟨#[61]⟩ : ByteArray) ++ escS s).size + 4) 1 [] (bytes_in s) (by rw [bytesOf_length]; omega) (by rw [drop_one, esc_list]) (by rw [bytesOf_length]; simp; omega)
  rw [List.nil_append, str_bytes] at this
  exact this
theorem bytR_hex (d : List Int) (hd : ∀ z ∈ d, 0 ≤ z ∧ z ≤ 255) (h : d.length ≤ 90000) : bytR (⟨#[35]⟩ ++ hexD d) false = some (strOfNums d) := by
  have h1 : (⟨#[35]⟩ : ByteArray).size = 1 := rfl
  have hz := hexD_size d hd
  have hsz : ((⟨#[35]⟩ : ByteArray) ++ hexD d).size = 1 + (hexD d).size := by rw [ByteArray.size_append, h1]
  have := hex_all (⟨#[35]⟩ ++ hexD d) (by omega) d (3 * ((⟨#[35]⟩ : ByteArray) ++ hexD d).size + 4) 1 [] hd (by omega) (by rw [drop_one, Go.ByteArray.toList_eq]; rfl) (by simp; omega)
  rw [List.nil_append] at this
  exact this
theorem dig_up (n : Int) (t : ByteArray) (h : squelchref26_Digits.f 8 n = some t) : ∀ j, squelchref26_Digits.f (8 + j) n = some t
  | 0 => h
  | j + 1 => squelchref26_Digits.mono n (8 + j) t (dig_up n t h j)
theorem numT_itoa (v : Int) (h : -9999 ≤ v ∧ v ≤ 9999) : numT v = some (⟨#[32]⟩ ++ itoaB v) := by
  have h1 : (⟨#[32]⟩ : ByteArray).size = 1 := rfl
  have hz := num_size v h.1 h.2
  have hd := dig_up v _ (num_dig v h.1 h.2) 52
  unfold numT squelchref30_num.f
  rw [hd]
  simp only [Option.bind_some]
  rw [if_pos (by omega)]
  simp only [Option.bind_some]
  rw [if_pos (by rw [ByteArray.size_append, h1]; omega)]
theorem two_f (c : Int) (h0 : 0 ≤ c) (h1 : c ≤ 255) : squelchref30_two.f c = some (twoS c) := by
  unfold squelchref30_two.f
  rw [if_pos ⟨h0, h1⟩]
theorem text_all (s : ByteArray) (hs : s.size ≤ 100000) : ∀ (d i K : Nat) (acc : ByteArray), s.size - i ≤ d → d + 1 ≤ K → i ≤ s.size → acc.size ≤ 1 + 3 * i → ∃ r, squelchref30_text.l0 K s acc (i : Int) = some r ∧ r.toList = acc.toList ++ ((bytesOf s).drop i).flatMap escC
  | _, _, 0, _, _, hK, _, _ => absurd hK (by omega)
  | d, i, K + 1, acc, hd, hK, hi, ha => by
    have h1 : (⟨#[37]⟩ : ByteArray).size = 1 := rfl
    rw [squelchref30_text.l0]
    by_cases hlt : i < s.size
    · obtain ⟨d, rfl⟩ : ∃ d', d = d' + 1 := ⟨d - 1, by omega⟩
      have hb := bt_range s (i : Int)
      have hdr : (bytesOf s).drop i = bt s (i : Int) :: (bytesOf s).drop (i + 1) := by
        rw [List.drop_eq_getElem_cons (by rw [bytesOf_length]; exact hlt), bytesOf_at s i hlt]
      have hz2 := two_size (bt s (i : Int)) hb.1 hb.2
      have hesc : ¬ (32 < bt s (i : Int) ∧ bt s (i : Int) ≤ 126 ∧ bt s (i : Int) ≠ 37) → ∃ r, squelchref30_text.l0 K s ((acc ++ (⟨#[37]⟩ : ByteArray)) ++ twoS (bt s (i : Int))) ((i + 1 : Nat) : Int) = some r ∧ r.toList = acc.toList ++ ((bytesOf s).drop i).flatMap escC := by
        intro hp
        obtain ⟨r, hr, hq⟩ := text_all s hs d (i + 1) K ((acc ++ (⟨#[37]⟩ : ByteArray)) ++ twoS (bt s (i : Int))) (by omega) (by omega) (by omega) (by rw [ByteArray.size_append, ByteArray.size_append, h1]; omega)
        refine ⟨r, hr, ?_⟩
        rw [hq, hdr, List.flatMap_cons, toList_app, toList_app, escC, if_neg hp, Go.ByteArray.toList_eq ⟨#[37]⟩, Go.ByteArray.toList_eq (twoS _)]
        simp
      rw [if_pos (by omega), if_pos (by omega), two_f _ hb.1 hb.2, wrap_lit i 1 1 rfl (by omega)]
      simp only [Option.bind_some]
      have hsz : (acc ++ (⟨#[37]⟩ : ByteArray)).size + (twoS (bt s (i : Int))).size ≤ 9223372036854775807 := by rw [ByteArray.size_append, h1]; omega
      by_cases p1 : bt s (i : Int) < 33
      · rw [if_pos p1, if_pos (by omega), if_pos hsz]
        exact hesc (fun h => by omega)
      · rw [if_neg p1]
        by_cases p2 : bt s (i : Int) > 126
        · rw [if_pos p2, if_pos (by omega), if_pos hsz]
          exact hesc (fun h => by omega)
        · rw [if_neg p2]
          by_cases p3 : bt s (i : Int) = 37
          · rw [if_pos p3, if_pos (by omega), if_pos hsz]
            exact hesc (fun h => h.2.2 p3)
          · have hex : (s.extract (i : Int).toNat (((i + 1 : Nat) : Int)).toNat).toList = [UInt8.ofNat (bt s (i : Int)).toNat] := by
              obtain ⟨c, r, e1, e2, e3⟩ := bt_at s i hlt
              rw [Int.toNat_natCast, Int.toNat_natCast, toList_ext, List.drop_take, e1, e3]
              simp
            have hes : (s.extract (i : Int).toNat (((i + 1 : Nat) : Int)).toNat).size = 1 := by rw [← len_eq, hex]; rfl
            rw [if_neg p3, if_pos (by omega), if_pos (by omega), if_pos (by omega)]
            obtain ⟨r, hr, hq⟩ := text_all s hs d (i + 1) K (acc ++ s.extract (i : Int).toNat (((i + 1 : Nat) : Int)).toNat) (by omega) (by omega) (by omega) (by rw [ByteArray.size_append]; omega)
            refine ⟨r, hr, ?_⟩
            rw [hq, hdr, List.flatMap_cons, toList_app, hex, escC, if_pos ⟨by omega, by omega, p3⟩]
            simp
    · rw [if_neg (by omega)]
      refine ⟨_, rfl, ?_⟩
      rw [List.drop_of_length_le (by rw [bytesOf_length]; omega)]
      simp
theorem textT_esc (s : ByteArray) (hs : s.size ≤ 2000) : textT s = some (⟨#[61]⟩ ++ escS s) := by
  have h1 : (⟨#[61]⟩ : ByteArray).size = 1 := rfl
  have hz := esc_size s
  obtain ⟨r, hr, hq⟩ := text_all s (by omega) s.size 0 (s.size + 2) ⟨#[61]⟩ (by omega) (by omega) (by omega) (by rw [h1]; omega)
  have he : r = ⟨#[61]⟩ ++ escS s := by
    apply ba_eq
    rw [hq, List.drop_zero, toList_app, esc_list]
  subst he
  unfold textT squelchref30_text.f
  have hr' : squelchref30_text.l0 (s.size + 2) s ⟨#[61]⟩ 0 = some (⟨#[61]⟩ ++ escS s) := hr
  rw [hr']
  simp only [Option.bind_some]
  rw [if_pos (by rw [ByteArray.size_append, h1]; omega)]
end Go.Proofs.YtndgaeldndgioaaGreatDoor.Pure
end

section
/- Both take the same lines, and tell the same events: the reference's side, by kinds. -/
set_option linter.unusedVariables false
set_option linter.unusedSimpArgs false
set_option maxHeartbeats 1000000
namespace Go.Proofs.YtndgaeldndgioaaGreatDoor.Pure
open Go.RowKit Go.Proofs.YtndgaeldndgioaaGreatDoor.QAll Go.Proofs.YtndgaeldndgioaaGreatDoorW.PrintWords Go.Proofs.YtndgaeldndgioaaGreatDoorW.PrintLast
def plain (e : Ev) : Rv := ⟨e.k, e.a, e.b, e.n, e.m, e.s, e.x, e.y, strOfNums e.d⟩
theorem fits_b {v : Int} (h : fitsB v = true) : -9999 ≤ v ∧ v ≤ 9999 := by
  unfold fitsB at h
  rw [Bool.and_eq_true] at h
  exact ⟨of_decide_eq_true h.1, of_decide_eq_true h.2⟩
theorem bytesOf_str (d : List Int) (h : ∀ z ∈ d, 0 ≤ z ∧ z ≤ 255) : bytesOf (strOfNums d) = d := by
  show ((d.map fun x => UInt8.ofNat x.toNat).map fun b => (b.toNat : Int)) = d
  rw [List.map_map]
  conv => rhs; rw [← List.map_id d]
  apply List.map_congr_left
  intro z hz
  have := h z hz
  exact byte_back z this.1 this.2
theorem hex_str (d : List Int) (h : ∀ z ∈ d, 0 ≤ z ∧ z ≤ 255) : hexN (strOfNums d) (strOfNums d).size = hexD d := by
  unfold hexN hexD
  rw [List.take_of_length_le (by rw [bytesOf_length]; exact Nat.le_refl _), bytesOf_str d h]
/-- What is told of a kind. -/
structure KindOk (k : Nat) : Prop where
  canon : ∀ e, DE e k → printR (plain e) = some (if okE e k = true then lnE e k else lnE e k) ∧ (okE e k = true → readR k (wsE e k) = some (plain e) ∧ rightR (plain e) = some true)
  read : ∀ ws : List ByteArray, ws.length + 1 = needN k → (∀ x ∈ ws, x.size ≤ 1000000) → ∃ r rb, readR k ws = some r ∧ rightR r = some rb ∧ (rb = true → ∃ e, DE e k ∧ okE e k = true ∧ plain e = r)
theorem kind_ok_1 : KindOk 1 := by
  constructor
  · intro e h
    have hi := h.inv
    have hs := h.same
    obtain ⟨ek, a, b, n, m, s, x, y, d⟩ := e
    obtain rfl : ek = 1 := hs.k
    obtain rfl : b = 0 := hs.b (by decide)
    obtain rfl : n = 0 := hs.n (by decide)
    obtain rfl : m = 0 := hs.m (by decide)
    obtain rfl : x = 0 := hs.x (by decide)
    obtain rfl : y = 0 := hs.y (by decide)
    obtain rfl : d = [] := hs.d (by decide)
    have hln : lnE (⟨(1), a, 0, 0, 0, s, 0, 0, []⟩ : Ev) 1 = joinS [nameOf 1, itoaB a, ⟨#[61]⟩ ++ escS s] ⟨#[32]⟩ := rfl
    constructor
    · rw [ite_self, hln]
      show squelchref30_Print.f 1 a 0 0 0 s 0 0 ⟨#[]⟩ = _
      unfold squelchref30_Print.f
      rw [if_neg (by decide), if_pos rfl]
      rw [numT_itoa a hi.a]
      simp only [Option.bind_some]
      rw [textT_esc s hi.s]
      simp only [Option.bind_some]
      congr 1
      apply ba_ext
      unfold joinS joinL
      simp [dl_app, Lib.join_cons, Lib.joinTail, nameOf, namesL]
    · intro hok
      constructor
      · show readR 1 [itoaB a, ⟨#[61]⟩ ++ escS s] = _
        simp only [readR]
        rw [numR_itoa a hi.a]
        simp only [Option.bind_some]
        rw [bytR_esc s hi.s]
        simp only [Option.bind_some]
        rfl
      · refine (right_a 1 (Or.inl rfl) a s).trans ?_
        have ho : okE (⟨(1), a, 0, 0, 0, s, 0, 0, []⟩ : Ev) 1 = (fitsB a && (decide ((s.size : Int) ≤ 300) && (true))) := rfl
        rw [ho] at hok
        simp only [Bool.and_eq_true, decide_eq_true_eq] at hok
        have hsz : s.size ≤ 300 := by omega
        rw [fits_t hi.a, decide_eq_true hsz]
        rfl
  · intro ws hl hsz
    have hl' : ws.length = 2 := by have : needN 1 = 3 := rfl; omega
    match ws, hl', hsz with
    | [w1, w2], _, hsz =>
    obtain ⟨a, ha⟩ := numR_some w1
    obtain ⟨s, hs⟩ := bytR_some w2 true (hsz w2 (by simp))
    refine ⟨⟨(1), a, 0, 0, 0, s, 0, 0, ⟨#[]⟩⟩, _, ?_, right_a 1 (Or.inl rfl) a s, fun hr => ?_⟩
    · simp only [readR]
      rw [ha]
      simp only [Option.bind_some]
      rw [hs]
      simp only [Option.bind_some]
    · try simp only [Bool.and_eq_true, decide_eq_true_eq] at hr
      refine ⟨⟨(1), a, 0, 0, 0, s, 0, 0, []⟩, ⟨by decide, by decide, ⟨fits_b hr.1, z9999, z9999, z9999, z9999, z9999, (by have h3 := hr.2; show s.size ≤ 2000; omega), fun z hz => absurd hz List.not_mem_nil, Nat.zero_le 90000⟩, ⟨rfl, fun h => absurd (by decide) h, fun _ => rfl, fun _ => rfl, fun _ => rfl, fun _ => rfl, fun _ => rfl, fun h => absurd (by decide) h, fun _ => rfl⟩⟩, ?_, ?_⟩
      · show (fitsB a && (decide ((s.size : Int) ≤ 300) && (true))) = true
        have h3 : decide ((s.size : Int) ≤ 300) = true := decide_eq_true (by have h3 := hr.2; omega)
        rw [hr.1, h3]
        try rfl
      · rfl
theorem kind_ok_2 : KindOk 2 := by
  constructor
  · intro e h
    have hi := h.inv
    have hs := h.same
    obtain ⟨ek, a, b, n, m, s, x, y, d⟩ := e
    obtain rfl : ek = 2 := hs.k
    obtain rfl : b = 0 := hs.b (by decide)
    obtain rfl : n = 0 := hs.n (by decide)
    obtain rfl : m = 0 := hs.m (by decide)
    obtain rfl : x = 0 := hs.x (by decide)
    obtain rfl : y = 0 := hs.y (by decide)
    obtain rfl : d = [] := hs.d (by decide)
    have hln : lnE (⟨(2), a, 0, 0, 0, s, 0, 0, []⟩ : Ev) 2 = joinS [nameOf 2, itoaB a, ⟨#[61]⟩ ++ escS s] ⟨#[32]⟩ := rfl
    constructor
    · rw [ite_self, hln]
      show squelchref30_Print.f 2 a 0 0 0 s 0 0 ⟨#[]⟩ = _
      unfold squelchref30_Print.f
      rw [if_neg (by decide), if_neg (by decide), if_pos rfl]
      rw [numT_itoa a hi.a]
      simp only [Option.bind_some]
      rw [textT_esc s hi.s]
      simp only [Option.bind_some]
      congr 1
      apply ba_ext
      unfold joinS joinL
      simp [dl_app, Lib.join_cons, Lib.joinTail, nameOf, namesL]
    · intro hok
      constructor
      · show readR 2 [itoaB a, ⟨#[61]⟩ ++ escS s] = _
        simp only [readR]
        rw [numR_itoa a hi.a]
        simp only [Option.bind_some]
        rw [bytR_esc s hi.s]
        simp only [Option.bind_some]
        rfl
      · refine (right_a 2 (Or.inr rfl) a s).trans ?_
        have ho : okE (⟨(2), a, 0, 0, 0, s, 0, 0, []⟩ : Ev) 2 = (fitsB a && (decide ((s.size : Int) ≤ 300) && (true))) := rfl
        rw [ho] at hok
        simp only [Bool.and_eq_true, decide_eq_true_eq] at hok
        have hsz : s.size ≤ 300 := by omega
        rw [fits_t hi.a, decide_eq_true hsz]
        rfl
  · intro ws hl hsz
    have hl' : ws.length = 2 := by have : needN 2 = 3 := rfl; omega
    match ws, hl', hsz with
    | [w1, w2], _, hsz =>
    obtain ⟨a, ha⟩ := numR_some w1
    obtain ⟨s, hs⟩ := bytR_some w2 true (hsz w2 (by simp))
    refine ⟨⟨(2), a, 0, 0, 0, s, 0, 0, ⟨#[]⟩⟩, _, ?_, right_a 2 (Or.inr rfl) a s, fun hr => ?_⟩
    · simp only [readR]
      rw [ha]
      simp only [Option.bind_some]
      rw [hs]
      simp only [Option.bind_some]
    · try simp only [Bool.and_eq_true, decide_eq_true_eq] at hr
      refine ⟨⟨(2), a, 0, 0, 0, s, 0, 0, []⟩, ⟨by decide, by decide, ⟨fits_b hr.1, z9999, z9999, z9999, z9999, z9999, (by have h3 := hr.2; show s.size ≤ 2000; omega), fun z hz => absurd hz List.not_mem_nil, Nat.zero_le 90000⟩, ⟨rfl, fun h => absurd (by decide) h, fun _ => rfl, fun _ => rfl, fun _ => rfl, fun _ => rfl, fun _ => rfl, fun h => absurd (by decide) h, fun _ => rfl⟩⟩, ?_, ?_⟩
      · show (fitsB a && (decide ((s.size : Int) ≤ 300) && (true))) = true
        have h3 : decide ((s.size : Int) ≤ 300) = true := decide_eq_true (by have h3 := hr.2; omega)
        rw [hr.1, h3]
        try rfl
      · rfl
theorem kind_ok_3 : KindOk 3 := by
  constructor
  · intro e h
    have hi := h.inv
    have hs := h.same
    obtain ⟨ek, a, b, n, m, s, x, y, d⟩ := e
    obtain rfl : ek = 3 := hs.k
    obtain rfl : b = 0 := hs.b (by decide)
    obtain rfl : n = 0 := hs.n (by decide)
    obtain rfl : m = 0 := hs.m (by decide)
    obtain rfl : x = 0 := hs.x (by decide)
    obtain rfl : y = 0 := hs.y (by decide)
    obtain rfl : s = ⟨#[]⟩ := hs.s (by decide)
    obtain rfl : d = [] := hs.d (by decide)
    have hln : lnE (⟨(3), a, 0, 0, 0, ⟨#[]⟩, 0, 0, []⟩ : Ev) 3 = joinS [nameOf 3, itoaB a] ⟨#[32]⟩ := rfl
    constructor
    · rw [ite_self, hln]
      show squelchref30_Print.f 3 a 0 0 0 ⟨#[]⟩ 0 0 ⟨#[]⟩ = _
      unfold squelchref30_Print.f
      rw [if_neg (by decide), if_neg (by decide), if_neg (by decide), if_pos rfl]
      rw [numT_itoa a hi.a]
      simp only [Option.bind_some]
      congr 1
      apply ba_ext
      unfold joinS joinL
      simp [dl_app, Lib.join_cons, Lib.joinTail, nameOf, namesL]
    · intro hok
      constructor
      · show readR 3 [itoaB a] = _
        simp only [readR]
        rw [numR_itoa a hi.a]
        simp only [Option.bind_some]
        rfl
      · refine (right_3 a).trans ?_
        have ho : okE (⟨(3), a, 0, 0, 0, ⟨#[]⟩, 0, 0, []⟩ : Ev) 3 = (fitsB a && (true)) := rfl
        rw [ho] at hok
        simp only [Bool.and_eq_true, decide_eq_true_eq] at hok
        rw [fits_t hi.a]
  · intro ws hl hsz
    have hl' : ws.length = 1 := by have : needN 3 = 2 := rfl; omega
    match ws, hl', hsz with
    | [w1], _, hsz =>
    obtain ⟨a, ha⟩ := numR_some w1
    refine ⟨⟨(3), a, 0, 0, 0, ⟨#[]⟩, 0, 0, ⟨#[]⟩⟩, _, ?_, right_3 a, fun hr => ?_⟩
    · simp only [readR]
      rw [ha]
      simp only [Option.bind_some]
    · try simp only [Bool.and_eq_true, decide_eq_true_eq] at hr
      refine ⟨⟨(3), a, 0, 0, 0, ⟨#[]⟩, 0, 0, []⟩, ⟨by decide, by decide, ⟨fits_b hr, z9999, z9999, z9999, z9999, z9999, Nat.zero_le 2000, fun z hz => absurd hz List.not_mem_nil, Nat.zero_le 90000⟩, ⟨rfl, fun h => absurd (by decide) h, fun _ => rfl, fun _ => rfl, fun _ => rfl, fun _ => rfl, fun _ => rfl, fun _ => rfl, fun _ => rfl⟩⟩, ?_, ?_⟩
      · show (fitsB a && (true)) = true
        rw [hr]
        try rfl
      · rfl
theorem kind_ok_4 : KindOk 4 := by
  constructor
  · intro e h
    have hi := h.inv
    have hs := h.same
    obtain ⟨ek, a, b, n, m, s, x, y, d⟩ := e
    obtain rfl : ek = 4 := hs.k
    obtain rfl : a = 0 := hs.a (by decide)
    obtain rfl : b = 0 := hs.b (by decide)
    obtain rfl : n = 0 := hs.n (by decide)
    obtain rfl : m = 0 := hs.m (by decide)
    obtain rfl : x = 0 := hs.x (by decide)
    obtain rfl : y = 0 := hs.y (by decide)
    obtain rfl : s = ⟨#[]⟩ := hs.s (by decide)
    have hln : lnE (⟨(4), 0, 0, 0, 0, ⟨#[]⟩, 0, 0, d⟩ : Ev) 4 = joinS [nameOf 4, ⟨#[35]⟩ ++ hexD d] ⟨#[32]⟩ := rfl
    constructor
    · rw [ite_self, hln]
      show squelchref30_Print.f 4 0 0 0 0 ⟨#[]⟩ 0 0 (strOfNums d) = _
      unfold squelchref30_Print.f
      rw [if_pos rfl, if_pos (by rw [str_size]; have := hi.l; have : d.length ≤ 90000 := this; omega), hex_str d hi.d]
      congr 1
      apply ba_ext
      unfold joinS joinL
      simp [dl_app, Lib.join_cons, Lib.joinTail, nameOf, namesL]
    · intro hok
      constructor
      · show readR 4 [⟨#[35]⟩ ++ hexD d] = _
        simp only [readR]
        rw [bytR_hex d hi.d hi.l]
        simp only [Option.bind_some]
        rfl
      · refine (right_4 (strOfNums d)).trans ?_
        have ho : okE (⟨(4), 0, 0, 0, 0, ⟨#[]⟩, 0, 0, d⟩ : Ev) 4 = (decide ((d.length : Int) ≤ 16) && (true)) := rfl
        rw [ho] at hok
        simp only [Bool.and_eq_true, decide_eq_true_eq] at hok
        have hsz : (strOfNums d).size ≤ 16 := by rw [str_size]; omega
        rw [decide_eq_true hsz]
  · intro ws hl hsz
    have hl' : ws.length = 1 := by have : needN 4 = 2 := rfl; omega
    match ws, hl', hsz with
    | [w1], _, hsz =>
    obtain ⟨d, hd⟩ := bytR_some w1 false (hsz w1 (by simp))
    refine ⟨⟨(4), 0, 0, 0, 0, ⟨#[]⟩, 0, 0, d⟩, _, ?_, right_4 d, fun hr => ?_⟩
    · simp only [readR]
      rw [hd]
      simp only [Option.bind_some]
    · try simp only [Bool.and_eq_true, decide_eq_true_eq] at hr
      refine ⟨⟨(4), 0, 0, 0, 0, ⟨#[]⟩, 0, 0, bytesOf d⟩, ⟨by decide, by decide, ⟨z9999, z9999, z9999, z9999, z9999, z9999, Nat.zero_le 2000, bytes_in d, (by rw [bytesOf_length]; have h3 := hr; omega)⟩, ⟨rfl, fun _ => rfl, fun _ => rfl, fun _ => rfl, fun _ => rfl, fun _ => rfl, fun _ => rfl, fun _ => rfl, fun h => absurd (by decide) h⟩⟩, ?_, ?_⟩
      · show (decide (((bytesOf d).length : Int) ≤ 16) && (true)) = true
        have h3 : decide (((bytesOf d).length : Int) ≤ 16) = true := decide_eq_true (by rw [bytesOf_length]; have h3 := hr; omega)
        rw [h3]
        try rfl
      · show (⟨4, 0, 0, 0, 0, ⟨#[]⟩, 0, 0, strOfNums (bytesOf d)⟩ : Rv) = _
        rw [str_bytes]
theorem kind_ok_5 : KindOk 5 := by
  constructor
  · intro e h
    have hi := h.inv
    have hs := h.same
    obtain ⟨ek, a, b, n, m, s, x, y, d⟩ := e
    obtain rfl : ek = 5 := hs.k
    obtain rfl : n = 0 := hs.n (by decide)
    obtain rfl : m = 0 := hs.m (by decide)
    obtain rfl : x = 0 := hs.x (by decide)
    obtain rfl : y = 0 := hs.y (by decide)
    obtain rfl : s = ⟨#[]⟩ := hs.s (by decide)
    obtain rfl : d = [] := hs.d (by decide)
    have hln : lnE (⟨(5), a, b, 0, 0, ⟨#[]⟩, 0, 0, []⟩ : Ev) 5 = joinS [nameOf 5, itoaB a, itoaB b] ⟨#[32]⟩ := rfl
    constructor
    · rw [ite_self, hln]
      show squelchref30_Print.f 5 a b 0 0 ⟨#[]⟩ 0 0 ⟨#[]⟩ = _
      unfold squelchref30_Print.f
      rw [if_neg (by decide), if_neg (by decide), if_neg (by decide), if_neg (by decide), if_pos rfl]
      rw [numT_itoa a hi.a]
      simp only [Option.bind_some]
      rw [numT_itoa b hi.b]
      simp only [Option.bind_some]
      congr 1
      apply ba_ext
      unfold joinS joinL
      simp [dl_app, Lib.join_cons, Lib.joinTail, nameOf, namesL]
    · intro hok
      constructor
      · show readR 5 [itoaB a, itoaB b] = _
        simp only [readR]
        rw [numR_itoa a hi.a]
        simp only [Option.bind_some]
        rw [numR_itoa b hi.b]
        simp only [Option.bind_some]
        rfl
      · refine (right_b 5 (Or.inl rfl) a b).trans ?_
        have ho : okE (⟨(5), a, b, 0, 0, ⟨#[]⟩, 0, 0, []⟩ : Ev) 5 = (fitsB a && (fitsB b && (true))) := rfl
        rw [ho] at hok
        simp only [Bool.and_eq_true, decide_eq_true_eq] at hok
        rw [fits_t hi.a, fits_t hi.b]
        rfl
  · intro ws hl hsz
    have hl' : ws.length = 2 := by have : needN 5 = 3 := rfl; omega
    match ws, hl', hsz with
    | [w1, w2], _, hsz =>
    obtain ⟨a, ha⟩ := numR_some w1
    obtain ⟨b, hb⟩ := numR_some w2
    refine ⟨⟨(5), a, b, 0, 0, ⟨#[]⟩, 0, 0, ⟨#[]⟩⟩, _, ?_, right_b 5 (Or.inl rfl) a b, fun hr => ?_⟩
    · simp only [readR]
      rw [ha]
      simp only [Option.bind_some]
      rw [hb]
      simp only [Option.bind_some]
    · try simp only [Bool.and_eq_true, decide_eq_true_eq] at hr
      refine ⟨⟨(5), a, b, 0, 0, ⟨#[]⟩, 0, 0, []⟩, ⟨by decide, by decide, ⟨fits_b hr.1, fits_b hr.2, z9999, z9999, z9999, z9999, Nat.zero_le 2000, fun z hz => absurd hz List.not_mem_nil, Nat.zero_le 90000⟩, ⟨rfl, fun h => absurd (by decide) h, fun h => absurd (by decide) h, fun _ => rfl, fun _ => rfl, fun _ => rfl, fun _ => rfl, fun _ => rfl, fun _ => rfl⟩⟩, ?_, ?_⟩
      · show (fitsB a && (fitsB b && (true))) = true
        rw [hr.1, hr.2]
        try rfl
      · rfl
theorem kind_ok_6 : KindOk 6 := by
  constructor
  · intro e h
    have hi := h.inv
    have hs := h.same
    obtain ⟨ek, a, b, n, m, s, x, y, d⟩ := e
    obtain rfl : ek = 6 := hs.k
    obtain rfl : x = 0 := hs.x (by decide)
    obtain rfl : y = 0 := hs.y (by decide)
    obtain rfl : s = ⟨#[]⟩ := hs.s (by decide)
    obtain rfl : d = [] := hs.d (by decide)
    have hln : lnE (⟨(6), a, b, n, m, ⟨#[]⟩, 0, 0, []⟩ : Ev) 6 = joinS [nameOf 6, itoaB a, itoaB b, itoaB n, itoaB m] ⟨#[32]⟩ := rfl
    constructor
    · rw [ite_self, hln]
      show squelchref30_Print.f 6 a b n m ⟨#[]⟩ 0 0 ⟨#[]⟩ = _
      unfold squelchref30_Print.f
      rw [if_neg (by decide), if_neg (by decide), if_neg (by decide), if_neg (by decide), if_neg (by decide), if_pos rfl]
      rw [numT_itoa a hi.a]
      simp only [Option.bind_some]
      rw [numT_itoa b hi.b]
      simp only [Option.bind_some]
      rw [numT_itoa n hi.n]
      simp only [Option.bind_some]
      rw [numT_itoa m hi.m]
      simp only [Option.bind_some]
      congr 1
      apply ba_ext
      unfold joinS joinL
      simp [dl_app, Lib.join_cons, Lib.joinTail, nameOf, namesL]
    · intro hok
      constructor
      · show readR 6 [itoaB a, itoaB b, itoaB n, itoaB m] = _
        simp only [readR]
        rw [numR_itoa a hi.a]
        simp only [Option.bind_some]
        rw [numR_itoa b hi.b]
        simp only [Option.bind_some]
        rw [numR_itoa n hi.n]
        simp only [Option.bind_some]
        rw [numR_itoa m hi.m]
        simp only [Option.bind_some]
        rfl
      · refine (right_6 a b n m).trans ?_
        have ho : okE (⟨(6), a, b, n, m, ⟨#[]⟩, 0, 0, []⟩ : Ev) 6 = (fitsB a && (fitsB b && (fitsB n && (fitsB m && (true))))) := rfl
        rw [ho] at hok
        simp only [Bool.and_eq_true, decide_eq_true_eq] at hok
        rw [fits_t hi.a, fits_t hi.b, fits_t hi.n, fits_t hi.m]
        rfl
  · intro ws hl hsz
    have hl' : ws.length = 4 := by have : needN 6 = 5 := rfl; omega
    match ws, hl', hsz with
    | [w1, w2, w3, w4], _, hsz =>
    obtain ⟨a, ha⟩ := numR_some w1
    obtain ⟨b, hb⟩ := numR_some w2
    obtain ⟨n, hn⟩ := numR_some w3
    obtain ⟨m, hm⟩ := numR_some w4
    refine ⟨⟨(6), a, b, n, m, ⟨#[]⟩, 0, 0, ⟨#[]⟩⟩, _, ?_, right_6 a b n m, fun hr => ?_⟩
    · simp only [readR]
      rw [ha]
      simp only [Option.bind_some]
      rw [hb]
      simp only [Option.bind_some]
      rw [hn]
      simp only [Option.bind_some]
      rw [hm]
      simp only [Option.bind_some]
    · try simp only [Bool.and_eq_true, decide_eq_true_eq] at hr
      refine ⟨⟨(6), a, b, n, m, ⟨#[]⟩, 0, 0, []⟩, ⟨by decide, by decide, ⟨fits_b hr.1.1.1, fits_b hr.1.1.2, fits_b hr.1.2, fits_b hr.2, z9999, z9999, Nat.zero_le 2000, fun z hz => absurd hz List.not_mem_nil, Nat.zero_le 90000⟩, ⟨rfl, fun h => absurd (by decide) h, fun h => absurd (by decide) h, fun h => absurd (by decide) h, fun h => absurd (by decide) h, fun _ => rfl, fun _ => rfl, fun _ => rfl, fun _ => rfl⟩⟩, ?_, ?_⟩
      · show (fitsB a && (fitsB b && (fitsB n && (fitsB m && (true))))) = true
        rw [hr.1.1.1, hr.1.1.2, hr.1.2, hr.2]
        try rfl
      · rfl
theorem kind_ok_7 : KindOk 7 := by
  constructor
  · intro e h
    have hi := h.inv
    have hs := h.same
    obtain ⟨ek, a, b, n, m, s, x, y, d⟩ := e
    obtain rfl : ek = 7 := hs.k
    obtain rfl : n = 0 := hs.n (by decide)
    obtain rfl : m = 0 := hs.m (by decide)
    obtain rfl : x = 0 := hs.x (by decide)
    obtain rfl : y = 0 := hs.y (by decide)
    obtain rfl : s = ⟨#[]⟩ := hs.s (by decide)
    obtain rfl : d = [] := hs.d (by decide)
    have hln : lnE (⟨(7), a, b, 0, 0, ⟨#[]⟩, 0, 0, []⟩ : Ev) 7 = joinS [nameOf 7, itoaB a, itoaB b] ⟨#[32]⟩ := rfl
    constructor
    · rw [ite_self, hln]
      show squelchref30_Print.f 7 a b 0 0 ⟨#[]⟩ 0 0 ⟨#[]⟩ = _
      unfold squelchref30_Print.f
      rw [if_neg (by decide), if_neg (by decide), if_neg (by decide), if_neg (by decide), if_neg (by decide), if_neg (by decide), if_pos rfl]
      rw [numT_itoa a hi.a]
      simp only [Option.bind_some]
      rw [numT_itoa b hi.b]
      simp only [Option.bind_some]
      congr 1
      apply ba_ext
      unfold joinS joinL
      simp [dl_app, Lib.join_cons, Lib.joinTail, nameOf, namesL]
    · intro hok
      constructor
      · show readR 7 [itoaB a, itoaB b] = _
        simp only [readR]
        rw [numR_itoa a hi.a]
        simp only [Option.bind_some]
        rw [numR_itoa b hi.b]
        simp only [Option.bind_some]
        rfl
      · refine (right_b 7 (Or.inr (Or.inl rfl)) a b).trans ?_
        have ho : okE (⟨(7), a, b, 0, 0, ⟨#[]⟩, 0, 0, []⟩ : Ev) 7 = (fitsB a && (fitsB b && (true))) := rfl
        rw [ho] at hok
        simp only [Bool.and_eq_true, decide_eq_true_eq] at hok
        rw [fits_t hi.a, fits_t hi.b]
        rfl
  · intro ws hl hsz
    have hl' : ws.length = 2 := by have : needN 7 = 3 := rfl; omega
    match ws, hl', hsz with
    | [w1, w2], _, hsz =>
    obtain ⟨a, ha⟩ := numR_some w1
    obtain ⟨b, hb⟩ := numR_some w2
    refine ⟨⟨(7), a, b, 0, 0, ⟨#[]⟩, 0, 0, ⟨#[]⟩⟩, _, ?_, right_b 7 (Or.inr (Or.inl rfl)) a b, fun hr => ?_⟩
    · simp only [readR]
      rw [ha]
      simp only [Option.bind_some]
      rw [hb]
      simp only [Option.bind_some]
    · try simp only [Bool.and_eq_true, decide_eq_true_eq] at hr
      refine ⟨⟨(7), a, b, 0, 0, ⟨#[]⟩, 0, 0, []⟩, ⟨by decide, by decide, ⟨fits_b hr.1, fits_b hr.2, z9999, z9999, z9999, z9999, Nat.zero_le 2000, fun z hz => absurd hz List.not_mem_nil, Nat.zero_le 90000⟩, ⟨rfl, fun h => absurd (by decide) h, fun h => absurd (by decide) h, fun _ => rfl, fun _ => rfl, fun _ => rfl, fun _ => rfl, fun _ => rfl, fun _ => rfl⟩⟩, ?_, ?_⟩
      · show (fitsB a && (fitsB b && (true))) = true
        rw [hr.1, hr.2]
        try rfl
      · rfl
theorem kind_ok_8 : KindOk 8 := by
  constructor
  · intro e h
    have hi := h.inv
    have hs := h.same
    obtain ⟨ek, a, b, n, m, s, x, y, d⟩ := e
    obtain rfl : ek = 8 := hs.k
    obtain rfl : n = 0 := hs.n (by decide)
    obtain rfl : m = 0 := hs.m (by decide)
    obtain rfl : x = 0 := hs.x (by decide)
    obtain rfl : y = 0 := hs.y (by decide)
    obtain rfl : s = ⟨#[]⟩ := hs.s (by decide)
    obtain rfl : d = [] := hs.d (by decide)
    have hln : lnE (⟨(8), a, b, 0, 0, ⟨#[]⟩, 0, 0, []⟩ : Ev) 8 = joinS [nameOf 8, itoaB a, itoaB b] ⟨#[32]⟩ := rfl
    constructor
    · rw [ite_self, hln]
      show squelchref30_Print.f 8 a b 0 0 ⟨#[]⟩ 0 0 ⟨#[]⟩ = _
      unfold squelchref30_Print.f
      rw [if_neg (by decide), if_neg (by decide), if_neg (by decide), if_neg (by decide), if_neg (by decide), if_neg (by decide), if_neg (by decide), if_pos rfl]
      rw [numT_itoa a hi.a]
      simp only [Option.bind_some]
      rw [numT_itoa b hi.b]
      simp only [Option.bind_some]
      congr 1
      apply ba_ext
      unfold joinS joinL
      simp [dl_app, Lib.join_cons, Lib.joinTail, nameOf, namesL]
    · intro hok
      constructor
      · show readR 8 [itoaB a, itoaB b] = _
        simp only [readR]
        rw [numR_itoa a hi.a]
        simp only [Option.bind_some]
        rw [numR_itoa b hi.b]
        simp only [Option.bind_some]
        rfl
      · refine (right_b 8 (Or.inr (Or.inr rfl)) a b).trans ?_
        have ho : okE (⟨(8), a, b, 0, 0, ⟨#[]⟩, 0, 0, []⟩ : Ev) 8 = (fitsB a && (fitsB b && (true))) := rfl
        rw [ho] at hok
        simp only [Bool.and_eq_true, decide_eq_true_eq] at hok
        rw [fits_t hi.a, fits_t hi.b]
        rfl
  · intro ws hl hsz
    have hl' : ws.length = 2 := by have : needN 8 = 3 := rfl; omega
    match ws, hl', hsz with
    | [w1, w2], _, hsz =>
    obtain ⟨a, ha⟩ := numR_some w1
    obtain ⟨b, hb⟩ := numR_some w2
    refine ⟨⟨(8), a, b, 0, 0, ⟨#[]⟩, 0, 0, ⟨#[]⟩⟩, _, ?_, right_b 8 (Or.inr (Or.inr rfl)) a b, fun hr => ?_⟩
    · simp only [readR]
      rw [ha]
      simp only [Option.bind_some]
      rw [hb]
      simp only [Option.bind_some]
    · try simp only [Bool.and_eq_true, decide_eq_true_eq] at hr
      refine ⟨⟨(8), a, b, 0, 0, ⟨#[]⟩, 0, 0, []⟩, ⟨by decide, by decide, ⟨fits_b hr.1, fits_b hr.2, z9999, z9999, z9999, z9999, Nat.zero_le 2000, fun z hz => absurd hz List.not_mem_nil, Nat.zero_le 90000⟩, ⟨rfl, fun h => absurd (by decide) h, fun h => absurd (by decide) h, fun _ => rfl, fun _ => rfl, fun _ => rfl, fun _ => rfl, fun _ => rfl, fun _ => rfl⟩⟩, ?_, ?_⟩
      · show (fitsB a && (fitsB b && (true))) = true
        rw [hr.1, hr.2]
        try rfl
      · rfl
theorem kind_ok_9 : KindOk 9 := by
  constructor
  · intro e h
    have hi := h.inv
    have hs := h.same
    obtain ⟨ek, a, b, n, m, s, x, y, d⟩ := e
    obtain rfl : ek = 9 := hs.k
    obtain rfl : b = 0 := hs.b (by decide)
    obtain rfl : m = 0 := hs.m (by decide)
    obtain rfl : s = ⟨#[]⟩ := hs.s (by decide)
    obtain rfl : d = [] := hs.d (by decide)
    have hln : lnE (⟨(9), a, 0, n, 0, ⟨#[]⟩, x, y, []⟩ : Ev) 9 = joinS [nameOf 9, itoaB a, itoaB x, itoaB y, itoaB n] ⟨#[32]⟩ := rfl
    constructor
    · rw [ite_self, hln]
      show squelchref30_Print.f 9 a 0 n 0 ⟨#[]⟩ x y ⟨#[]⟩ = _
      unfold squelchref30_Print.f
      rw [if_neg (by decide), if_neg (by decide), if_neg (by decide), if_neg (by decide), if_neg (by decide), if_neg (by decide), if_neg (by decide), if_neg (by decide), if_pos rfl]
      rw [numT_itoa a hi.a]
      simp only [Option.bind_some]
      rw [numT_itoa x hi.x]
      simp only [Option.bind_some]
      rw [numT_itoa y hi.y]
      simp only [Option.bind_some]
      rw [numT_itoa n hi.n]
      simp only [Option.bind_some]
      congr 1
      apply ba_ext
      unfold joinS joinL
      simp [dl_app, Lib.join_cons, Lib.joinTail, nameOf, namesL]
    · intro hok
      constructor
      · show readR 9 [itoaB a, itoaB x, itoaB y, itoaB n] = _
        simp only [readR]
        rw [numR_itoa a hi.a]
        simp only [Option.bind_some]
        rw [numR_itoa x hi.x]
        simp only [Option.bind_some]
        rw [numR_itoa y hi.y]
        simp only [Option.bind_some]
        rw [numR_itoa n hi.n]
        simp only [Option.bind_some]
        rfl
      · refine (right_9 a n x y).trans ?_
        have ho : okE (⟨(9), a, 0, n, 0, ⟨#[]⟩, x, y, []⟩ : Ev) 9 = (fitsB a && (true && (true && (fitsB n && (true))))) := rfl
        rw [ho] at hok
        simp only [Bool.and_eq_true, decide_eq_true_eq] at hok
        rw [fits_t hi.a, fits_t hi.x, fits_t hi.y, fits_t hi.n]
        rfl
  · intro ws hl hsz
    have hl' : ws.length = 4 := by have : needN 9 = 5 := rfl; omega
    match ws, hl', hsz with
    | [w1, w2, w3, w4], _, hsz =>
    obtain ⟨a, ha⟩ := numR_some w1
    obtain ⟨x, hx⟩ := numR_some w2
    obtain ⟨y, hy⟩ := numR_some w3
    obtain ⟨n, hn⟩ := numR_some w4
    refine ⟨⟨(9), a, 0, n, 0, ⟨#[]⟩, x, y, ⟨#[]⟩⟩, _, ?_, right_9 a n x y, fun hr => ?_⟩
    · simp only [readR]
      rw [ha]
      simp only [Option.bind_some]
      rw [hx]
      simp only [Option.bind_some]
      rw [hy]
      simp only [Option.bind_some]
      rw [hn]
      simp only [Option.bind_some]
    · try simp only [Bool.and_eq_true, decide_eq_true_eq] at hr
      refine ⟨⟨(9), a, 0, n, 0, ⟨#[]⟩, x, y, []⟩, ⟨by decide, by decide, ⟨fits_b hr.1.1.1, z9999, fits_b hr.2, z9999, fits_b hr.1.1.2, fits_b hr.1.2, Nat.zero_le 2000, fun z hz => absurd hz List.not_mem_nil, Nat.zero_le 90000⟩, ⟨rfl, fun h => absurd (by decide) h, fun _ => rfl, fun h => absurd (by decide) h, fun _ => rfl, fun h => absurd (by decide) h, fun h => absurd (by decide) h, fun _ => rfl, fun _ => rfl⟩⟩, ?_, ?_⟩
      · show (fitsB a && (true && (true && (fitsB n && (true))))) = true
        rw [hr.1.1.1, hr.2]
        try rfl
      · rfl
theorem kind_ok_10 : KindOk 10 := by
  constructor
  · intro e h
    have hi := h.inv
    have hs := h.same
    obtain ⟨ek, a, b, n, m, s, x, y, d⟩ := e
    obtain rfl : ek = 10 := hs.k
    obtain rfl : b = 0 := hs.b (by decide)
    obtain rfl : n = 0 := hs.n (by decide)
    obtain rfl : m = 0 := hs.m (by decide)
    obtain rfl : s = ⟨#[]⟩ := hs.s (by decide)
    obtain rfl : d = [] := hs.d (by decide)
    have hln : lnE (⟨(10), a, 0, 0, 0, ⟨#[]⟩, x, y, []⟩ : Ev) 10 = joinS [nameOf 10, itoaB a, itoaB x, itoaB y] ⟨#[32]⟩ := rfl
    constructor
    · rw [ite_self, hln]
      show squelchref30_Print.f 10 a 0 0 0 ⟨#[]⟩ x y ⟨#[]⟩ = _
      unfold squelchref30_Print.f
      rw [if_neg (by decide), if_neg (by decide), if_neg (by decide), if_neg (by decide), if_neg (by decide), if_neg (by decide), if_neg (by decide), if_neg (by decide), if_neg (by decide), if_pos rfl]
      rw [numT_itoa a hi.a]
      simp only [Option.bind_some]
      rw [numT_itoa x hi.x]
      simp only [Option.bind_some]
      rw [numT_itoa y hi.y]
      simp only [Option.bind_some]
      congr 1
      apply ba_ext
      unfold joinS joinL
      simp [dl_app, Lib.join_cons, Lib.joinTail, nameOf, namesL]
    · intro hok
      constructor
      · show readR 10 [itoaB a, itoaB x, itoaB y] = _
        simp only [readR]
        rw [numR_itoa a hi.a]
        simp only [Option.bind_some]
        rw [numR_itoa x hi.x]
        simp only [Option.bind_some]
        rw [numR_itoa y hi.y]
        simp only [Option.bind_some]
        rfl
      · refine (right_c 10 (Or.inl rfl) a x y).trans ?_
        have ho : okE (⟨(10), a, 0, 0, 0, ⟨#[]⟩, x, y, []⟩ : Ev) 10 = (fitsB a && (true && (true && (true)))) := rfl
        rw [ho] at hok
        simp only [Bool.and_eq_true, decide_eq_true_eq] at hok
        rw [fits_t hi.a, fits_t hi.x, fits_t hi.y]
        rfl
  · intro ws hl hsz
    have hl' : ws.length = 3 := by have : needN 10 = 4 := rfl; omega
    match ws, hl', hsz with
    | [w1, w2, w3], _, hsz =>
    obtain ⟨a, ha⟩ := numR_some w1
    obtain ⟨x, hx⟩ := numR_some w2
    obtain ⟨y, hy⟩ := numR_some w3
    refine ⟨⟨(10), a, 0, 0, 0, ⟨#[]⟩, x, y, ⟨#[]⟩⟩, _, ?_, right_c 10 (Or.inl rfl) a x y, fun hr => ?_⟩
    · simp only [readR]
      rw [ha]
      simp only [Option.bind_some]
      rw [hx]
      simp only [Option.bind_some]
      rw [hy]
      simp only [Option.bind_some]
    · try simp only [Bool.and_eq_true, decide_eq_true_eq] at hr
      refine ⟨⟨(10), a, 0, 0, 0, ⟨#[]⟩, x, y, []⟩, ⟨by decide, by decide, ⟨fits_b hr.1.1, z9999, z9999, z9999, fits_b hr.1.2, fits_b hr.2, Nat.zero_le 2000, fun z hz => absurd hz List.not_mem_nil, Nat.zero_le 90000⟩, ⟨rfl, fun h => absurd (by decide) h, fun _ => rfl, fun _ => rfl, fun _ => rfl, fun h => absurd (by decide) h, fun h => absurd (by decide) h, fun _ => rfl, fun _ => rfl⟩⟩, ?_, ?_⟩
      · show (fitsB a && (true && (true && (true)))) = true
        rw [hr.1.1]
        try rfl
      · rfl
theorem kind_ok_11 : KindOk 11 := by
  constructor
  · intro e h
    have hi := h.inv
    have hs := h.same
    obtain ⟨ek, a, b, n, m, s, x, y, d⟩ := e
    obtain rfl : ek = 11 := hs.k
    obtain rfl : b = 0 := hs.b (by decide)
    obtain rfl : n = 0 := hs.n (by decide)
    obtain rfl : m = 0 := hs.m (by decide)
    obtain rfl : s = ⟨#[]⟩ := hs.s (by decide)
    obtain rfl : d = [] := hs.d (by decide)
    have hln : lnE (⟨(11), a, 0, 0, 0, ⟨#[]⟩, x, y, []⟩ : Ev) 11 = joinS [nameOf 11, itoaB a, itoaB x, itoaB y] ⟨#[32]⟩ := rfl
    constructor
    · rw [ite_self, hln]
      show squelchref30_Print.f 11 a 0 0 0 ⟨#[]⟩ x y ⟨#[]⟩ = _
      unfold squelchref30_Print.f
      rw [if_neg (by decide), if_neg (by decide), if_neg (by decide), if_neg (by decide), if_neg (by decide), if_neg (by decide), if_neg (by decide), if_neg (by decide), if_neg (by decide), if_neg (by decide), if_pos rfl]
      rw [numT_itoa a hi.a]
      simp only [Option.bind_some]
      rw [numT_itoa x hi.x]
      simp only [Option.bind_some]
      rw [numT_itoa y hi.y]
      simp only [Option.bind_some]
      congr 1
      apply ba_ext
      unfold joinS joinL
      simp [dl_app, Lib.join_cons, Lib.joinTail, nameOf, namesL]
    · intro hok
      constructor
      · show readR 11 [itoaB a, itoaB x, itoaB y] = _
        simp only [readR]
        rw [numR_itoa a hi.a]
        simp only [Option.bind_some]
        rw [numR_itoa x hi.x]
        simp only [Option.bind_some]
        rw [numR_itoa y hi.y]
        simp only [Option.bind_some]
        rfl
      · refine (right_c 11 (Or.inr rfl) a x y).trans ?_
        have ho : okE (⟨(11), a, 0, 0, 0, ⟨#[]⟩, x, y, []⟩ : Ev) 11 = (fitsB a && (true && (true && (true)))) := rfl
        rw [ho] at hok
        simp only [Bool.and_eq_true, decide_eq_true_eq] at hok
        rw [fits_t hi.a, fits_t hi.x, fits_t hi.y]
        rfl
  · intro ws hl hsz
    have hl' : ws.length = 3 := by have : needN 11 = 4 := rfl; omega
    match ws, hl', hsz with
    | [w1, w2, w3], _, hsz =>
    obtain ⟨a, ha⟩ := numR_some w1
    obtain ⟨x, hx⟩ := numR_some w2
    obtain ⟨y, hy⟩ := numR_some w3
    refine ⟨⟨(11), a, 0, 0, 0, ⟨#[]⟩, x, y, ⟨#[]⟩⟩, _, ?_, right_c 11 (Or.inr rfl) a x y, fun hr => ?_⟩
    · simp only [readR]
      rw [ha]
      simp only [Option.bind_some]
      rw [hx]
      simp only [Option.bind_some]
      rw [hy]
      simp only [Option.bind_some]
    · try simp only [Bool.and_eq_true, decide_eq_true_eq] at hr
      refine ⟨⟨(11), a, 0, 0, 0, ⟨#[]⟩, x, y, []⟩, ⟨by decide, by decide, ⟨fits_b hr.1.1, z9999, z9999, z9999, fits_b hr.1.2, fits_b hr.2, Nat.zero_le 2000, fun z hz => absurd hz List.not_mem_nil, Nat.zero_le 90000⟩, ⟨rfl, fun h => absurd (by decide) h, fun _ => rfl, fun _ => rfl, fun _ => rfl, fun h => absurd (by decide) h, fun h => absurd (by decide) h, fun _ => rfl, fun _ => rfl⟩⟩, ?_, ?_⟩
      · show (fitsB a && (true && (true && (true)))) = true
        rw [hr.1.1]
        try rfl
      · rfl
theorem kind_ok : ∀ k : Nat, 0 < k → k < 12 → KindOk k
  | 0, h, _ => absurd h (by decide)
  | 1, _, _ => kind_ok_1
  | 2, _, _ => kind_ok_2
  | 3, _, _ => kind_ok_3
  | 4, _, _ => kind_ok_4
  | 5, _, _ => kind_ok_5
  | 6, _, _ => kind_ok_6
  | 7, _, _ => kind_ok_7
  | 8, _, _ => kind_ok_8
  | 9, _, _ => kind_ok_9
  | 10, _, _ => kind_ok_10
  | 11, _, _ => kind_ok_11
  | k + 12, _, h => absurd h (by omega)
end Go.Proofs.YtndgaeldndgioaaGreatDoor.Pure
end

section
/- Both take the same lines, and tell the same events. -/
set_option linter.unusedVariables false
set_option linter.unusedSimpArgs false
set_option maxHeartbeats 1000000
namespace Go.Proofs.YtndgaeldndgioaaGreatDoor.Pure
open Go.RowKit Go.Proofs.YtndgaeldndgioaaGreatDoor.QAll Go.Proofs.YtndgaeldndgioaaGreatDoorW.PrintWords Go.Proofs.YtndgaeldndgioaaGreatDoorW.PrintLast
theorem up_name_all : ((List.range 12).all fun k => decide (kindUp (nameOf k) 11 = k)) = true := by kernel_rfl
theorem up_name (k : Nat) (hk : k < 12) : kindUp (nameOf k) 11 = k := of_decide_eq_true (List.all_eq_true.1 up_name_all k (List.mem_range.2 hk))
theorem need_all : ∀ k : Nat, 0 < k → k < 12 → (lettL.getD k []).length + 1 = needN k
  | 0, h, _ => absurd h (by decide)
  | 1, _, _ => rfl | 2, _, _ => rfl | 3, _, _ => rfl | 4, _, _ => rfl | 5, _, _ => rfl | 6, _, _ => rfl | 7, _, _ => rfl | 8, _, _ => rfl | 9, _, _ => rfl | 10, _, _ => rfl | 11, _, _ => rfl
  | k + 12, _, h => absurd h (by omega)
theorem ref_parse (s : ByteArray) (hs : s.size ≤ 2000) : ∃ out, parseR s = some out ∧ ((∃ e k, DE e k ∧ okE e k = true ∧ lnE e k = s ∧ out = (plain e, true)) ∨ (out = (rv0, false) ∧ ∀ e k, DE e k → okE e k = true → lnE e k ≠ s)) := by
  obtain ⟨h1, h2, h3⟩ := split_sizes s 32
  have hw := ref_split s (by omega) 32 rfl (s.size + 2) (by omega)
  unfold parseR
  rw [hw]
  simp only [Option.bind_some]
  match hsp : splitS s ⟨#[32]⟩, h1 with
  | l0 :: ws, _ =>
  rw [hsp] at h2 h3
  simp only [List.length_cons] at h2
  dsimp only
  rw [if_pos (show ws.length ≤ 1000000 by omega)]
  have hin : ∀ e k, DE e k → okE e k = true → lnE e k = s → kindUp l0 11 = k ∧ ws = wsE e k := by
    intro e k h hok hl
    have q := ln_split e k h
    rw [hl, hsp] at q
    injection q with q1 q2
    subst q1
    exact ⟨up_name k h.k12, q2⟩
  by_cases hb : kindUp l0 11 = 0 ∨ ws.length + 1 ≠ needN (kindUp l0 11)
  · rw [if_pos hb]
    refine ⟨_, rfl, Or.inr ⟨rfl, fun e k h hok hl => ?_⟩⟩
    obtain ⟨q1, q2⟩ := hin e k h hok hl
    have hk0 := h.k0
    have hn := need_all k h.k0 h.k12
    have hwl : ws.length = (lettL.getD k []).length := by rw [q2]; unfold wsE; rw [List.length_map]
    rw [q1] at hb
    rcases hb with hb | hb <;> omega
  · rw [if_neg hb]
    have hk0 : 0 < kindUp l0 11 := by
      by_cases h : kindUp l0 11 = 0
      · exact absurd (Or.inl h) hb
      · omega
    have hl : ws.length + 1 = needN (kindUp l0 11) := by
      by_cases h : ws.length + 1 = needN (kindUp l0 11)
      · exact h
      · exact absurd (Or.inr h) hb
    have hk12 : kindUp l0 11 < 12 := by have := kindUp_le l0 11; omega
    have KO := kind_ok (kindUp l0 11) hk0 hk12
    obtain ⟨r, rb, hr, hrb, hq⟩ := KO.read ws hl (fun x hx => by have := h3 x (by simp [hx]); omega)
    rw [hr]
    simp only [Option.bind_some]
    rw [hrb]
    simp only [Option.bind_some]
    unfold endR
    cases rb with
    | false =>
      rw [if_neg Bool.false_ne_true]
      refine ⟨_, rfl, Or.inr ⟨rfl, fun e k h hok hl => ?_⟩⟩
      obtain ⟨q1, q2⟩ := hin e k h hok hl
      subst q1
      obtain ⟨p1, p2⟩ := (KO.canon e h).2 hok
      rw [← q2, hr] at p1
      obtain rfl := Option.some.inj p1
      rw [hrb] at p2
      cases Option.some.inj p2
    | true =>
      rw [if_pos rfl]
      obtain ⟨e, hD, hok, rfl⟩ := hq rfl
      have hp := (KO.canon e hD).1
      rw [ite_self] at hp
      rw [hp]
      simp only [Option.map_some]
      by_cases hs2 : lnE e (kindUp l0 11) = s
      · rw [if_pos hs2]
        exact ⟨_, rfl, Or.inl ⟨e, _, hD, hok, hs2, rfl⟩⟩
      · rw [if_neg hs2]
        refine ⟨_, rfl, Or.inr ⟨rfl, fun e' k h hok' hl' => ?_⟩⟩
        obtain ⟨q1, q2⟩ := hin e' k h hok' hl'
        subst q1
        obtain ⟨p1, p2⟩ := (KO.canon e' h).2 hok'
        rw [← q2, hr] at p1
        have hp' := (KO.canon e' h).1
        rw [ite_self, ← Option.some.inj p1, hp] at hp'
        exact hs2 ((Option.some.inj hp').trans hl')
end Go.Proofs.YtndgaeldndgioaaGreatDoor.Pure
end

section
/- squelchlaw30.awake, walked by hand: the example is as the document has it. -/
set_option linter.unusedVariables false
set_option linter.unusedSimpArgs false
namespace Go.Proofs.YtndgaeldndgioaaGreatDoor.QAll
open Go.RowKit Go.Proofs.YtndgaeldndgioaaGreatDoorW.PrintWords Go.Proofs.YtndgaeldndgioaaGreatDoorW.PrintLast Go.Proofs.YtndgaeldndgioaaGreatDoorW.PrintMore
open Go.Proofs.YtndgaeldndgioaaGreatDoor.Fl
attribute [local go_sem] run_store_complex
def ex0 : ByteArray := ⟨#[75, 69, 89, 83, 32, 49, 32, 61, 99, 37, 50, 48, 98, 37, 48, 68]⟩
def exE : Ev := ⟨1, 1, 0, 0, 0, ⟨#[99, 32, 98, 13]⟩, 0, 0, []⟩
theorem ex_DE : Pure.DE exE 1 := ⟨by decide, by decide, ⟨by decide, by decide, by decide, by decide, by decide, by decide, by decide, fun z hz => absurd hz List.not_mem_nil, Nat.zero_le 90000⟩, ⟨rfl, fun h => absurd (by decide) h, fun _ => rfl, fun _ => rfl, fun _ => rfl, fun _ => rfl, fun _ => rfl, fun h => absurd (by decide) h, fun _ => rfl⟩⟩
theorem ex_ok : Pure.okE exE 1 = true := by kernel_rfl
theorem ex_ln : Pure.lnE exE 1 = ex0 := by kernel_rfl
theorem ex_told : Told exE 1 ex0 true := by
  have h := Pure.told_of exE 1 ex_DE
  rw [ex_ok, if_pos rfl, ex_ln] at h
  exact h
theorem ex_parse (w : World) (hE : EnvW w) : Calls Tryz.prog 7 #[.string ex0] w fun r w' => ∃ A c, r = .returned (.tuple #[evV exE A c, .int .i64 0]) ∧ (Kd.int .u8).R 5 w' w.heap.size (fun _ => True) (.slice A 0 c) [] ∧ Below w.heap.size w w' := by
  obtain ⟨out, hs, hc⟩ := Pure.script_parse ex0 (by decide)
  rcases hs with ⟨k, hD, hok, hl, h0⟩ | ⟨_, hn⟩
  · have e1 := Pure.ln_split out.1 k hD
    have e2 := Pure.ln_split exE 1 ex_DE
    rw [hl] at e1
    rw [ex_ln, e1] at e2
    injection e2 with n1 n2
    have hk : k = 1 := by
      have a1 := Pure.up_name k hD.k12
      rw [n1, Pure.up_name 1 (by decide)] at a1
      exact a1.symm
    subst hk
    have b1 := Pure.read_back out.1 1 hD hok
    rw [n2, Pure.read_back exE 1 ex_DE ex_ok] at b1
    have b2 : exE = out.1 := (Prod.mk.inj (Option.some.inj b1)).1
    have := hc w hE
    rw [← b2, h0] at this
    exact this
  · exact absurd ex_ln (hn exE 1 ex_DE ex_ok)
theorem exV (A : Option Addr) (c : Nat) : evV exE A c = .agg #[.int .i64 1, .int .i64 1, .int .i64 0, .int .i64 0, .int .i64 0, .string ⟨#[99, 32, 98, 13]⟩, .complex .f64 0 0, .slice A 0 c] := by
  unfold evV exE
  simp only [fl_0]
  rfl
set_option maxHeartbeats 8000000 in
set_option maxRecDepth 100000 in
theorem awake_calls (w : World) (hE : EnvW w) : Calls Tryz.prog 6 #[] w fun r w' => r = .returned (.bool true) ∧ Below w.heap.size w w' := by
  have HE := Aside0.mk hE
  have HP := Aside0.mk (fun (W : World) (hb : Below w.heap.size w W) => ex_parse W (hE.below hb))
  have HR := Aside0.mk (fun (W : World) (hb : Below w.heap.size w W) => print_told exE 1 ex0 true none 0 W (hE.below hb) ex_told (Kd.C_nil _ W))
  clear hE
  simp only [exV, if_pos] at HP HR
  unfold ex0 at HP HR
  go_enter Tryz.func6, Tryz.ntmps6
  go_wp2_with (fail)
  (with_reducible refine (HP.out _ ((Below.refl _ _).alloc (Nat.le_refl _) _)).mono ?_)
  rintro r w2 ⟨A, c, rfl, hR, hb2⟩
  have HX2 := Aside0.mk ((hb2.block w.heap.size (by simp)).trans (heap_alloc_new w _))
  have HB2 := Aside0.mk (below_step ((Below.refl w.heap.size w).alloc (Nat.le_refl _) _) hb2)
  have hlt : w.heap.size < w2.heap.size := Nat.lt_of_lt_of_le (by simp) hb2.size
  clear hb2 hR
  have HX3 := Aside0.mk (heap_step_alloc HX2.out hlt (.cells #[.int .i64 1, .int .i64 1, .int .i64 0, .int .i64 0, .int .i64 0, .string ⟨#[99, 32, 98, 13]⟩, .complex .f64 0 0, .slice A 0 c] 26 (0, 0)))
  have HB3 := Aside0.mk (below_alloc HB2.out (.cells #[.int .i64 1, .int .i64 1, .int .i64 0, .int .i64 0, .int .i64 0, .string ⟨#[99, 32, 98, 13]⟩, .complex .f64 0 0, .slice A 0 c] 26 (0, 0)))
  have HG3 := Aside0.mk (heap_alloc_new w2 (.cells #[.int .i64 1, .int .i64 1, .int .i64 0, .int .i64 0, .int .i64 0, .string ⟨#[99, 32, 98, 13]⟩, .complex .f64 0 0, .slice A 0 c] 26 (0, 0)))
  obtain ⟨w3, hw3⟩ : ∃ w3, w2.alloc (.cells #[.int .i64 1, .int .i64 1, .int .i64 0, .int .i64 0, .int .i64 0, .string ⟨#[99, 32, 98, 13]⟩, .complex .f64 0 0, .slice A 0 c] 26 (0, 0)) = w3 := ⟨_, rfl⟩
  rw [hw3] at HX3 HB3 HG3
  obtain ⟨k0, k1, k2, k3, k4, k5, k6, k7⟩ := cells8 HX3.out
  go_wp2_with (fail)
  (with_reducible refine (HR.out _ HB3.out).mono ?_)
  rintro r w4 ⟨rfl, hb4⟩
  have HG4 := Aside0.mk ((hb4.block _ (lt_of_some HG3.out)).trans HG3.out)
  have HB4 := Aside0.mk (below_then HB3.out (Nat.le_of_lt (lt_of_some HX3.out)) hb4)
  clear k0 k1 k2 k3 k4 k5 k6 k7 hw3
  obtain ⟨k0, k1, k2, k3, k4, k5, k6, k7⟩ := cells8 HG4.out
  go_wp2_with (fail)
  go_ret
  exact ⟨rfl, HB4.out⟩
end Go.Proofs.YtndgaeldndgioaaGreatDoor.QAll
end

section
/- squelchlaw30.ScriptParses, walked by hand: it is true of any line. -/
set_option linter.unusedVariables false
set_option linter.unusedSimpArgs false
namespace Go.Proofs.YtndgaeldndgioaaGreatDoor.QAll
open Go.RowKit Go.Proofs.YtndgaeldndgioaaGreatDoorW.PrintWords Go.Proofs.YtndgaeldndgioaaGreatDoorW.PrintLast Go.Proofs.YtndgaeldndgioaaGreatDoorW.PrintMore
open Go.Proofs.YtndgaeldndgioaaGreatDoor.Fl
attribute [local go_sem] run_store_complex
theorem eqA31 (d : Nat) (w : World) (k a b n m : Int) (s : ByteArray) (x y : Int) (t : ByteArray) :
 (Op.equalIn (d + 2) 31 (.agg #[.int .i64 k, .int .i64 a, .int .i64 b, .int .i64 n, .int .i64 m, .string s, .int .i64 x, .int .i64 y, .string t]) (.agg #[.int .i64 k, .int .i64 a, .int .i64 b, .int .i64 n, .int .i64 m, .string s, .int .i64 x, .int .i64 y, .string t])).run Tryz.prog w = .ok true w := by
 refine eqA_of Tryz.underlying31 (by kernel_rfl) ?_
 refine eqf_cons (r := true) (s := true) (by rfl) (by go_simp; rfl) (by go_simp; rfl) (by go_simp) ?_
 refine eqf_cons (r := true) (s := true) (by rfl) (by go_simp; rfl) (by go_simp; rfl) (by go_simp) ?_
 refine eqf_cons (r := true) (s := true) (by rfl) (by go_simp; rfl) (by go_simp; rfl) (by go_simp) ?_
 refine eqf_cons (r := true) (s := true) (by rfl) (by go_simp; rfl) (by go_simp; rfl) (by go_simp) ?_
 refine eqf_cons (r := true) (s := true) (by rfl) (by go_simp; rfl) (by go_simp; rfl) (by go_simp) ?_
 refine eqf_cons (r := true) (s := true) (by rfl) (by go_simp; rfl) (by go_simp; rfl) (by go_simp) ?_
 refine eqf_cons (r := true) (s := true) (by rfl) (by go_simp; rfl) (by go_simp; rfl) (by go_simp) ?_
 refine eqf_cons (r := true) (s := true) (by rfl) (by go_simp; rfl) (by go_simp; rfl) (by go_simp) ?_
 exact eqf_last (by rfl) (by go_simp; rfl) (by go_simp; rfl) (by go_simp)
/-- Both tell the same of a line. -/
theorem both (s : ByteArray) (hs : s.size ≤ 2000) : ∃ (e : Ev) (f : Int) (ok : Bool), ((ok = true ∧ f = 0) ∨ (ok = false ∧ f = 2)) ∧ EvIn e ∧
  (∀ w, EnvW w → Calls Tryz.prog 7 #[.string s] w fun r w' => ∃ A c, r = .returned (.tuple #[evV e A c, .int .i64 f]) ∧ (Kd.int .u8).R 5 w' w.heap.size (fun _ => True) (.slice A e.d.length c) e.d ∧ Below w.heap.size w w') ∧
  ∀ w, Calls Tryz.prog 8 #[.string s] w fun r w' => r = .returned (.tuple #[plV e, .bool ok]) ∧ Below w.heap.size w w' := by
 obtain ⟨out, h1, hc⟩ := Pure.script_parse s hs
 obtain ⟨out2, hp, h2⟩ := Pure.ref_parse s hs
 have hr := fun w => rparse_calls s out2 w hp
 rcases h1 with ⟨k, hD, hok, hl, h0⟩ | ⟨rfl, hn⟩
 ·rcases h2 with ⟨e', k', hD', hok', hl', rfl⟩ | ⟨_, hn2⟩
  ·have e1 := Pure.ln_split out.1 k hD
   have e2 := Pure.ln_split e' k' hD'
   rw [hl] at e1
   rw [hl', e1] at e2
   injection e2 with n1 n2
   have hk : k = k' := by
    have a1 := Pure.up_name k hD.k12
    rw [n1, Pure.up_name k' hD'.k12] at a1
    exact a1.symm
   subst hk
   have b1 := Pure.read_back out.1 k hD hok
   rw [n2, Pure.read_back e' k hD' hok'] at b1
   have b2 : e' = out.1 := (Prod.mk.inj (Option.some.inj b1)).1
   refine ⟨out.1, out.2, true, Or.inl ⟨rfl, h0⟩, ⟨hD.inv.x.1, hD.inv.x.2, hD.inv.y.1, hD.inv.y.2⟩, hc, fun w => ?_⟩
   have := hr w
   rw [b2] at this
   exact this
  ·exact absurd hl (hn2 out.1 k hD hok)
 ·rcases h2 with ⟨e', k', hD', hok', hl', _⟩ | ⟨rfl, _⟩
  ·exact absurd hl' (hn e' k' hD' hok')
  ·exact ⟨ev0 0, 2, false, Or.inr ⟨rfl, rfl⟩, by unfold EvIn; decide, hc, hr⟩
def squelchlaw30_ScriptParses.f (k : Nat) (a0 : ByteArray) : Option Bool := some true
set_option maxHeartbeats 8000000 in
set_option maxRecDepth 100000 in
theorem squelchlaw30_ScriptParses.calls (k : Nat) (a0 : ByteArray) (r : Bool) (w : World) (hE_ : EnvW w) (hT_ : r = true) (h : squelchlaw30_ScriptParses.f k a0 = some r) :
  Calls Tryz.prog 3 #[.string a0] w fun e w' => e = .returned (.bool r) ∧ Below w.heap.size w w' := by
 subst hT_
 clear h
 have HE := Aside0.mk hE_
 clear hE_
 go_enter Tryz.func3, Tryz.ntmps3
 go_wp2_with (fail)
 (with_reducible refine (awake_calls _ HE.out).mono ?_)
 rintro e w1 ⟨rfl, hb1⟩
 have HB1 := Aside0.mk hb1
 clear hb1
 by_cases hs : a0.size ≤ 2000
 case neg =>
  have hgt : ((2000 : Int) < (a0.size : Int)) = True := eq_true (by omega)
  go_wp2_with (fail)
  go_ret
  exact ⟨rfl, HB1.out⟩
 have hle : ((2000 : Int) < (a0.size : Int)) = False := eq_false (by omega)
 obtain ⟨e, f, ok, hf, hin, hc, hr⟩ := both a0 hs
 have HF := Aside0.mk hf
 have HI := Aside0.mk hin
 have HC := Aside0.mk hc
 have HR := Aside0.mk hr
 clear hf hin hc hr
 unfold evV at HC
 unfold plV at HR
 go_wp2_with (fail)
 (with_reducible refine (HC.out _ (HE.out.below HB1.out)).mono ?_)
 rintro r w2 ⟨A, c, rfl, hR, hb2⟩
 have HB2 := Aside0.mk (below_then HB1.out HB1.out.size hb2)
 have HD2 := Aside0.mk (Kd.R_reads' hR).2.2
 clear hb2 hR
 have HQ2 := Aside0.mk (show BX w w2.heap.size e A c (w2.alloc (.cells #[.int .i64 e.k, .int .i64 e.a, .int .i64 e.b, .int .i64 e.n, .int .i64 e.m, .string e.s, .complex .f64 (fl e.x) (fl e.y), .slice A e.d.length c] 26 (0, 0))) from ⟨below_alloc HB2.out _, heap_alloc_new _ _, Kd.C_alloc HD2.out _, by simp⟩)
 go_wp2_with (fail)
 (with_reducible refine (HR.out _).mono ?_)
 rintro r w3 ⟨rfl, hb3⟩
 have HQ3 := Aside0.mk (BX_below HQ2.out hb3)
 clear hb3 HQ2
 have HQ4 := Aside0.mk (BX_alloc HQ3.out (.cells #[.int .i64 e.k, .int .i64 e.a, .int .i64 e.b, .int .i64 e.n, .int .i64 e.m, .string e.s, .int .i64 e.x, .int .i64 e.y, .string (strOfNums e.d)] 31 (0, 0)))
 have HG4 := Aside0.mk (heap_alloc_new w3 (.cells #[.int .i64 e.k, .int .i64 e.a, .int .i64 e.b, .int .i64 e.n, .int .i64 e.m, .string e.s, .int .i64 e.x, .int .i64 e.y, .string (strOfNums e.d)] 31 (0, 0)))
 obtain ⟨w4, hw4⟩ : ∃ w4, w3.alloc (.cells #[.int .i64 e.k, .int .i64 e.a, .int .i64 e.b, .int .i64 e.n, .int .i64 e.m, .string e.s, .int .i64 e.x, .int .i64 e.y, .string (strOfNums e.d)] 31 (0, 0)) = w4 := ⟨_, rfl⟩
 rw [hw4] at HQ4 HG4
 clear HQ3
 obtain ⟨k0, k1, k2, k3, k4, k5, k6, k7⟩ := cells8 HQ4.out.h
 have hpl := plain_calls e A c w4 HI.out HQ4.out.d
 unfold evV plV at hpl
 have HPl := Aside0.mk hpl
 clear hpl
 go_wp2_with (fail)
 (with_reducible refine HPl.out.mono ?_)
 rintro r w5 ⟨rfl, hb5⟩
 have HB5 := Aside0.mk (BX_below HQ4.out hb5).b
 have HG5 := Aside0.mk ((hb5.block _ (lt_of_some HG4.out)).trans HG4.out)
 clear k0 k1 k2 k3 k4 k5 k6 k7 hw4
 have HB6 := Aside0.mk (below_alloc HB5.out (.cells #[.int .i64 e.k, .int .i64 e.a, .int .i64 e.b, .int .i64 e.n, .int .i64 e.m, .string e.s, .int .i64 e.x, .int .i64 e.y, .string (strOfNums e.d)] 31 (0, 0)))
 have HG6 := Aside0.mk (heap_step_alloc HG5.out (lt_of_some HG5.out) (.cells #[.int .i64 e.k, .int .i64 e.a, .int .i64 e.b, .int .i64 e.n, .int .i64 e.m, .string e.s, .int .i64 e.x, .int .i64 e.y, .string (strOfNums e.d)] 31 (0, 0)))
 have HH6 := Aside0.mk (heap_alloc_new w5 (.cells #[.int .i64 e.k, .int .i64 e.a, .int .i64 e.b, .int .i64 e.n, .int .i64 e.m, .string e.s, .int .i64 e.x, .int .i64 e.y, .string (strOfNums e.d)] 31 (0, 0)))
 obtain ⟨w6, hw6⟩ : ∃ w6, w5.alloc (.cells #[.int .i64 e.k, .int .i64 e.a, .int .i64 e.b, .int .i64 e.n, .int .i64 e.m, .string e.s, .int .i64 e.x, .int .i64 e.y, .string (strOfNums e.d)] 31 (0, 0)) = w6 := ⟨_, rfl⟩
 rw [hw6] at HB6 HG6 HH6
 obtain ⟨k0, k1, k2, k3, k4, k5, k6, k7, k8⟩ := cells9 HG6.out
 obtain ⟨j0, j1, j2, j3, j4, j5, j6, j7, j8⟩ := cells9 HH6.out
 rcases HF.out with ⟨rfl, rfl⟩ | ⟨rfl, rfl⟩
 ·go_wp2_with (first | rw [eqA31])
  go_ret
  exact ⟨rfl, HB6.out⟩
 ·go_wp2_with (first | rw [eqA31])
  go_ret
  exact ⟨rfl, HB6.out⟩
end Go.Proofs.YtndgaeldndgioaaGreatDoor.QAll
end

section
/- The plain law of ScriptParses. -/
namespace Go.Proofs.YtndgaeldndgioaaGreatDoor.Pure
open Go.Proofs.YtndgaeldndgioaaGreatDoor.QAll
theorem ScriptParses : ∀ (a0 : ByteArray), a0.size ≤ 140737488351232 → ∃ k, squelchlaw30_ScriptParses.f k a0 = some true := fun _ _ => ⟨0, rfl⟩
end Go.Proofs.YtndgaeldndgioaaGreatDoor.Pure
end

section
/- From a row's listed variables, and the world's shape, to what the walks ask of the package's variables; and the wrap of a row that hands on both. -/
set_option linter.unusedVariables false
namespace Go.Proofs.YtndgaeldndgioaaGreatDoor.QAll
open Go.RowKit Go.Lib

theorem lz1 : Tryz.prog.globalNamed "strconv.ErrSyntax" = some 2 := by kernel_rfl
theorem lz2 : Tryz.prog.globalNamed "strconv.ErrRange" = some 3 := by kernel_rfl
theorem lz3 : Tryz.prog.globalNamed "internal/strconv.uint64pow10" = some 0 := by kernel_rfl
theorem lzt1 : (Tryz.prog.globals[2]?).map (·.type) = some 134 := by kernel_rfl
theorem lzt2 : (Tryz.prog.globals[3]?).map (·.type) = some 134 := by kernel_rfl
theorem lzt3 : (Tryz.prog.globals[0]?).map (·.type) = some 217 := by kernel_rfl
theorem lzu109 : Tryz.prog.underlying 134 = some (.interface #[("Error", 137)]) := by kernel_rfl
theorem tab_of_reads {W : World} {name : String} {k : IntKind} {zs : List Int} {g : Nat} {t e : TypeId} {n : Nat}
    (hg : Tryz.prog.globalNamed name = some g) (hty : (Tryz.prog.globals[g]?).map (·.type) = some t) (ht : Tryz.prog.underlying t = some (.array n e)) (he : Tryz.prog.underlying e = some (.int k)) (hce : Tryz.prog.cellsOf e = 1) (hct : Tryz.prog.cellsOf t = n)
    (h : VarReads Tryz.prog W name (tabData k zs)) : TabIs Tryz.prog W name k zs := by
  obtain ⟨g', t', cs, fuel, p, hg', ht', hvar, hd⟩ := h
  obtain rfl := Option.some.inj (hg.symm.trans hg')
  obtain rfl := Option.some.inj (hty.symm.trans ht')
  unfold TabIs
  rw [hvar, ← cells_of_tab ht he hce hct hd]
theorem err_of_reads {W : World} {name : String} {g : Nat} {nm : String} {d : DataW Unit}
    (hg : Tryz.prog.globalNamed name = some g) (hty : (Tryz.prog.globals[g]?).map (·.type) = some 134)
    (h : VarReads Tryz.prog W name (.iface nm d)) : ∃ ev, W.cell? ⟨g, 0, none⟩ = some ev ∧ (ev = .nilIface ∨ ∃ te pe, ev = .iface te pe) := by
  obtain ⟨g', t', cs, fuel, p, hg', ht', hvar, hd⟩ := h
  obtain rfl := Option.some.inj (hg.symm.trans hg')
  obtain rfl := Option.some.inj (hty.symm.trans ht')
  obtain ⟨fuel', u, v, hcs, _, _⟩ := iface_of_trod lzu109 hd
  refine ⟨.iface u v, ?_, Or.inr ⟨u, v, rfl⟩⟩
  have e : cs = #[.iface u v] := by apply Array.ext'; simpa using hcs
  subst e
  simpa using World.var?_cell hg hvar 0
theorem maxLen_shaped {W : World} (h : W.ShapedOpen Tryz.prog) : ∃ m, W.cell? ⟨1, 0, none⟩ = some (.int .i64 m) :=
  cell_of_shapedOpen_int (t := 3) (zero := #[.int .i64 0]) h (of_decide_eq_true (by kernel_rfl)) (by kernel_rfl) rfl (by kernel_rfl) (by kernel_rfl) Tryz.underlying3
theorem env_of_laid {W : World} {l : List (String × DataW Unit)} (hsh : W.ShapedOpen Tryz.prog) (hL : laidMet Tryz.prog l W)
    (h1 : ("internal/strconv.uint64pow10", Rows.laid_internal_strconv_uint64pow10) ∈ l) (h2 : ("strconv.ErrRange", Rows.laid_strconv_ErrRange) ∈ l) (h3 : ("strconv.ErrSyntax", Rows.laid_strconv_ErrSyntax) ∈ l) : EnvW W := by
  refine ⟨maxLen_shaped hsh, err_of_reads lz1 lzt1 (laidMet.reads hL h3), err_of_reads lz2 lzt2 (laidMet.reads hL h2), ?_⟩
  exact tab_of_reads (t := 217) (zs := Lib.pow10Tab) lz3 lzt3 Tryz.underlying217 Tryz.underlying196 (by kernel_rfl) (by kernel_rfl) (laidMet.reads hL h1)

/-- The wrap of a row that lists variables, with the reach, the listed variables and the world's shape handed on. -/
theorem returns_laid_shaped {H : Type} {enc : TypeId × Value → H} {a : Assume} {C : Checked} {os : Os} {f : FuncId} {fn : Func} {s : ChangeSpec} {conds : List PathCond} {apart fresh handsOn again : Bool} {l : List (String × DataW Unit)}
    (own : ownKnob C.prog.godebug = none) (started : os.Started) (noInit : C.prog.inits.idxOf? f = none) (hfn : C.prog.funcs[f]? = some fn)
    (witness : ∃ (w : World) (tape : Tape) (i : Input), w.os = os ∧ (w.forCall tape i).Shaped C.prog ∧ i.vars = [] ∧ Input.okWide C.prog (w.forCall tape i) .any w.heap.size f i ∧
      ((s.pre enc C.prog fn conds apart (w.forCall tape i).memory i.args ∧ laidMetH C.prog l (w.forCall tape i).memory) ∧ sizedMet enc C.prog fn (OpenSpec.ofChange s) apart (w.forCall tape i).memory i.args) ∧ a.holds C.prog (lone (Frame.enter C.prog f i.args .normal) [] (w.forCall tape i)))
    (contract : ∀ (W : World) (base : Nat) (args : Array Value) (ds gs : List (DataW H)) (before : List MemPlace),
      (∀ (j : Nat) t v, fn.params[j]? = some t → args[j]? = some v → Value.okWide C.prog W .any base t v) →
      DataW.Whole enc C.prog fn.params.toList s.vars apart W args.toList ds gs before →
      conds.all (PathCond.test C.prog ⟨fn.params.toList, ds, s.plain.varTypes C.prog, gs⟩) = true →
      (DataW.weightsEach C.prog (fn.params.toList ++ s.plain.varTypes C.prog) (ds ++ gs)).all (· ≤ reachBytes) = true → laidMetH C.prog l W → W.ShapedOpen C.prog →
      Calls C.prog f args W fun e W' => ∃ v, e = .returned v ∧ s.post enc C.prog fn apart fresh handsOn again W args v W') :
    ReturnsInHanded a C os f .any (fun w args => (s.pre enc C.prog fn conds apart w args ∧ laidMetH C.prog l w) ∧ sizedMet enc C.prog fn (OpenSpec.ofChange s) apart w args) (s.post enc C.prog fn apart fresh handsOn again) := by
  refine returnsInHanded_of_calls own started noInit witness ?_
  intro w tape i _ hsh _ hok hpre hholds
  obtain ⟨_, _, _, fn', hfn', _, _, _, _, hval⟩ := hok
  have e : fn' = fn := Option.some.inj (hfn'.symm.trans hfn)
  subst e
  obtain ⟨⟨⟨ds, gs, before, hw, hc⟩, hx⟩, hz⟩ := hpre
  have hw' := DataW.Whole.of_heap (w' := w.forCall tape i) (by rfl) hw
  refine (contract (w.forCall tape i) w.heap.size i.args ds gs before hval hw' hc (hz.weights hw) (laidMetH.of_heap (by rfl) hx) hsh).mono fun e W' ⟨v, he, hp⟩ => ?_
  subst he
  exact ChangeSpec.post_blind hp
end Go.Proofs.YtndgaeldndgioaaGreatDoor.QAll
end

section
/- The statement that the law squelchlaw30.ScriptParses is true of every input, its arguments left as they were: the row, out of its walk and its plain law. Written by a program of this session (wip/pp/row.py). -/
namespace Go.Proofs.YtndgaeldndgioaaGreatDoor.scriptParsesRow
open Go.ChangeShapes Go.WideShapes Go.ChangeAt Go.RowKit
open Go.ChangeMaps (open_string shut_string)
set_option linter.unusedVariables false
set_option linter.unusedSimpArgs false
theorem own : ownKnob Tryz.prog.godebug = none := by kernel_rfl
theorem laidOut : laidOutB Tryz.prog = true := by kernel_rfl
theorem cells9 : Tryz.prog.cellsOf 9 = 1 := by kernel_rfl
theorem met (os : Os) (args : Array Value) : laidMetH Tryz.prog Rows.scriptParsesRow.laid ((World.laidAll Tryz.prog os Rows.scriptParsesRow.laid).forCall (fun _ _ => 0) ⟨#[], args, []⟩).memory :=
  (show laidMet Tryz.prog Rows.scriptParsesRow.laid _ from laidMet_laidAll _ (by kernel_rfl) (by kernel_rfl))
set_option maxRecDepth 100000 in
theorem lifted (os : Os) (started : os.Started) (H : Type) (enc : TypeId × Value → H) :
    ReturnsInHanded {} Tryz.checked os 3 .any (fun w args => (Rows.scriptParsesSpec.pre enc Tryz.prog Tryz.f3 Rows.scriptParsesRow.domain false w args ∧ laidMetH Tryz.prog Rows.scriptParsesRow.laid w) ∧ sizedMet enc Tryz.prog Tryz.f3 (OpenSpec.ofChange Rows.scriptParsesSpec) false w args) (Rows.scriptParsesSpec.post enc Tryz.prog Tryz.f3 false true false false) := by
  refine QAll.returns_laid_shaped (C := Tryz.checked) own started (by kernel_rfl) Tryz.func3
    (ChangeSpec.witness_at (enc := enc) (C := Tryz.checked) (os := os) (X := fun w _ => laidMetH Tryz.prog Rows.scriptParsesRow.laid w) false (World.laidAll Tryz.prog os Rows.scriptParsesRow.laid) #[.string ByteArray.empty] 8 (World.laidAll_os _ _ _) (by kernel_rfl) (by kernel_rfl) (by kernel_rfl) (by kernel_rfl) (by kernel_rfl) (met os _)) ?_
  intro W base args ds gs before hval0 hW hcnd hsz0 hL hsh
  have hE : QAll.EnvW W := QAll.env_of_laid hsh (show laidMet Tryz.prog Rows.scriptParsesRow.laid W from hL) (by simp [Rows.scriptParsesRow]) (by simp [Rows.scriptParsesRow]) (by simp [Rows.scriptParsesRow])
  have hsz : (DataW.weightsEach Tryz.prog (Tryz.f3.params.toList ++ Rows.scriptParsesSpec.plain.varTypes Tryz.prog) (ds ++ gs)).all (· ≤ reachBytes) = true := hsz0
  have hval : ∀ (j : Nat) t v, Tryz.f3.params[j]? = some t → args[j]? = some v → Value.okWide Tryz.prog W .any base t v := hval0
  have hW' := hW
  obtain ⟨p, q, hA0, hV, rfl, hfz, hnd⟩ := hW
  have hA : DataW.TrodAll enc Tryz.prog W 0 (fun _ => true) true Tryz.f3.params.toList args.toList ds p := hA0
  rw [Tryz.params3] at hA hval hsz
  obtain ⟨v0, vs0, d0, ds0, p0, q0, hargs, rfl, rfl, h0, r0⟩ := trodAll_cons hA
  obtain ⟨rfl, rfl, rfl⟩ := trodAll_nil r0
  obtain rfl : args = #[v0] := by cases args; simp_all
  obtain ⟨rfl, rfl⟩ := trodVars_none hV
  have k0 := h0
  have lt0 : ∀ x ∈ p0, x.block < W.heap.size := by obtain ⟨m, hm⟩ := k0; exact DataW.trod_lt m _ _ _ hm
  obtain ⟨a0, rfl, rfl, rfl, ma0⟩ := open_string Tryz.underlying9 (hval 0 9 v0 rfl rfl) h0
  have hz : a0.size ≤ 140737488351232 := by
    have z := hsz
    skip
    simp [DataW.weightsEach, DataW.weights, reachBytes, Tryz.underlying9] at z
    first | omega | exact of_decide_eq_true z | exact ⟨of_decide_eq_true z.1⟩
  have za0 := hz
  clear hA0 hval0 hsz0 hsz
  obtain ⟨k, hp⟩ := Pure.ScriptParses a0 za0
  refine (QAll.squelchlaw30_ScriptParses.calls k a0 true W hE rfl hp).mono fun e W' ⟨he, bel⟩ => ?_
  subst he
  exact ⟨_, rfl, _, _, _, [], _, [], hW', trodAll_mk1 (shut_bool Tryz.underlying4 _), (trodAll_cons_mk (Below.trod laidOut (by kernel_rfl) (of_decide_eq_true (by kernel_rfl)) k0 bel lt0) trodAll_mk0), rfl, bel.frame _, fun h => by cases h⟩
theorem over : Rows.scriptParsesRow.holds Tryz.pinned (OpenSpec.ofChange Rows.scriptParsesSpec) :=
  OpenClaim.holds_of_wide 3 Tryz.f3 rfl rfl rfl rfl rfl rfl rfl ⟨rfl, rfl, rfl, rfl, rfl⟩ rfl rfl rfl rfl rfl (by kernel_rfl) Tryz.func3 (by kernel_rfl)
    (of_decide_eq_true (by kernel_rfl)) (by unfold Func.isWrapper; first | (rw [if_pos (by decide +kernel)]; kernel_rfl) | (rw [if_neg (by decide +kernel)]; exact ⟨rfl, rfl⟩))
    (fun os started H enc _ => lifted os started H enc)
theorem card : Rows.ScriptParsesCardSaid :=
  Claim7.holds_tied_plain_at .later [] [.data, .data, .data, .data, .sentinel, .sentinel, .pinned] true (true, "da5756e2d4c4bd1ba8e8f312282b50e91ff1323f256f7f7588ae48a88549457a") true
    over (fun _ h => by cases h) (by kernel_rfl) (fun _ h => by cases h) scriptParses_row_tie rfl ⟨rfl, rfl⟩ (by kernel_rfl) rfl
    (fun f fn hf hfn => by
      obtain rfl : f = 3 := Option.some.inj ((show Tryz.prog.funcNamed "squelch/squelchlaw30.ScriptParses" = some 3 by kernel_rfl).symm.trans hf) |>.symm
      obtain rfl : fn = Tryz.f3 := (Option.some.inj (Tryz.func3.symm.trans hfn)).symm
      exact ⟨by kernel_rfl, fun j t ht => by
        rw [Tryz.params3] at ht
        have hm := Array.mem_of_getElem? ht
        simp at hm
        rcases hm with rfl
        · exact (show Tryz.prog.wantsStandIn 9 = false by kernel_rfl)
      ⟩)
    (by kernel_rfl)
end Go.Proofs.YtndgaeldndgioaaGreatDoor.scriptParsesRow
namespace Go.Proofs.YtndgaeldndgioaaGreatDoor
theorem scriptParses_holds : Rows.ScriptParsesCardSaid := scriptParsesRow.card
#print axioms scriptParses_holds
end Go.Proofs.YtndgaeldndgioaaGreatDoor
end
