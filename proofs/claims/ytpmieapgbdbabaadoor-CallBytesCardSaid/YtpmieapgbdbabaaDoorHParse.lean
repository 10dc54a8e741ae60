/- call.Parse, walked by hand: the call of a word, or none and ErrCall, for every word. -/
import Derived.Test.YtpmieapgbdbabaaDoorHRight
import Derived.Test.YtpmieapgbdbabaaDoorHUpper
import Derived.Test.YtpmieapgbdbabaaDoorHCut
import Derived.Test.YtpmieapgbdbabaaDoorHEnv
set_option linter.unusedVariables false
set_option linter.unusedSimpArgs false
namespace Go.Proofs.YtpmieapgbdbabaaDoor.QAll
open Go.RowKit Go.Proofs.YtpmieapgbdbabaaDoorW.PrintWords Go.Proofs.YtpmieapgbdbabaaDoorW.PrintLast Go.Proofs.YtpmieapgbdbabaaDoorW.PrintMore

/-- The number behind the dash; none, if there is none so written. -/
def numOf (s : ByteArray) : Option Int := match Lib.atoiAll s.data.toList with
  | .ok v => if Lib.itoa v = s.data.toList then some v else none
  | _ => none
/-- What Parse tells. -/
def parseS (s : ByteArray) : ByteArray × Int × Int :=
  if cutHas (upperS s) 45 = true then
    match numOf (cutB (upperS s) 45) with
    | some v => if rightB (cutA (upperS s) 45) v = true then (cutA (upperS s) 45, v, 0) else (⟨#[]⟩, 0, 12)
    | none => (⟨#[]⟩, 0, 12)
  else if rightB (cutA (upperS s) 45) 0 = true then (cutA (upperS s) 45, 0, 0) else (⟨#[]⟩, 0, 12)
def call_Parse.f (a0 : ByteArray) : Option (ByteArray × Int × Int) := if a0.size ≤ 281474976710656 then some (parseS a0) else none

theorem upper_size (s : ByteArray) : (upperS s).size = s.size := by
  unfold upperS upL strOfNums
  show (List.toArray _).size = _
  simp [bytesOf]
theorem cutA_size (s : ByteArray) (c : UInt8) : (cutA s c).size ≤ s.size := by
  unfold cutA
  split
  · simp only [ByteArray.size_extract]; omega
  · exact Nat.le_refl _
theorem cutB_size (s : ByteArray) (c : UInt8) : (cutB s c).size ≤ s.size := by
  unfold cutB
  split
  · simp only [ByteArray.size_extract]; omega
  · exact Nat.zero_le _
theorem atoi_bounds {l : List UInt8} {v : Int} (h : Lib.atoiAll l = .ok v) : -9223372036854775808 ≤ v ∧ v ≤ 9223372036854775807 := by
  cases l with
  | nil => cases h
  | cons c r =>
    simp only [Lib.atoiAll] at h
    generalize hm : Lib.parseMag (if c.toNat = 43 ∨ c.toNat = 45 then r else c :: r) = m at h
    cases m with
    | range => cases h
    | ok u =>
      simp only at h
      by_cases e : c.toNat = 45
      · simp only [e, not_true_eq_false, false_and, if_false, true_and, if_true] at h
        split at h
        · cases h
        · injection h with h; omega
      · simp only [e, not_false_eq_true, true_and, false_and, if_false] at h
        split at h
        · cases h
        · injection h with h; omega
    | _ => cases h
theorem below_itoa (w : World) (k : Nat) (os : Array Obj) : Below w.heap.size w (Go.Sort.grow (w.drewN k) os) :=
  ⟨rfl, rfl, rfl, by show w.heap.size ≤ (w.heap ++ os).size; rw [Array.size_append]; omega, fun _ hj => Go.Sort.heap_grow_old (w.drewN k) os hj⟩
/-- A block of two cells, both written. -/
theorem two_set {w : World} {g : Nat} {a b x y : Value} {t : TypeId} (h : w.heap[g]? = some (.cells #[a, b] t (0, 0))) :
    ((w.setCell ⟨g, 0, none⟩ x).setCell ⟨g, 1, none⟩ y).heap[g]? = some (.cells #[x, y] t (0, 0)) := by
  simp [World.setCell, Array.getElem?_modify, h]
theorem one_set {w : World} {g : Nat} {a b y : Value} {t : TypeId} (h : w.heap[g]? = some (.cells #[a, b] t (0, 0))) :
    (w.setCell ⟨g, 1, none⟩ y).heap[g]? = some (.cells #[a, y] t (0, 0)) := by
  simp [World.setCell, Array.getElem?_modify, h]
/-- What is laid open of a block of two cells. -/
theorem two_cell {w : World} {g : Nat} {a b : Value} {t : TypeId} (h : w.heap[g]? = some (.cells #[a, b] t (0, 0))) :
    w.cell? ⟨g, 0, none⟩ = some a ∧ w.cell? ⟨g, 1, none⟩ = some b ∧ w.frozen? ⟨g, 0, none⟩ = false ∧ w.frozen? ⟨g, 1, none⟩ = false := by
  simp [World.cell?, World.frozen?, h]

set_option maxHeartbeats 1000000 in
set_option maxRecDepth 100000 in
theorem call_Parse.calls (a0 : ByteArray) (r1 : ByteArray) (r2 r3 : Int) (w : World) (hE_ : EnvW w) (h : call_Parse.f a0 = some (r1, r2, r3)) :
    Calls Tryd.prog 42 #[.string a0] w fun e w' => e = .returned (.tuple #[.agg #[.string r1, .int .i64 r2], .int .i64 r3]) ∧ Below w.heap.size w w' := by
  unfold call_Parse.f at h
  split at h
  case isFalse => exact absurd h (by simp)
  rename_i hs
  have HE := Aside0.mk hE_
  clear hE_
  have HR := Aside0.mk (Option.some.inj h)
  clear h
  have hu23 := Tryd.underlying23
  have hup : (upperS a0).size ≤ 281474976710656 := by rw [upper_size]; exact hs
  have hca : (cutA (upperS a0) 45).size ≤ 9223372036854775807 := by have := cutA_size (upperS a0) 45; omega
  have hcb : (cutB (upperS a0) 45).size ≤ 281474976710656 := by have := cutB_size (upperS a0) 45; omega
  go_enter Tryd.func42, Tryd.ntmps42
  go_wp2_with (fail)
  (with_reducible refine (call_upper.calls a0 (upperS a0) _ (by unfold call_upper.f; rw [if_pos (by omega)])).mono ?_)
  rintro e w1 ⟨rfl, hb1⟩
  cases hh : cutHas (upperS a0) 45 with
  | false =>
    have HH := Aside0.mk hh
    clear hh
    go_wp2_with (fail)
    (with_reducible refine (cut_one (upperS a0) 45 _ (by omega)).mono ?_)
    rw [HH.out]
    rintro e w2 ⟨rfl, hd2⟩
    have hz1 : w.heap.size < w2.heap.size := by have := hb1.size; have := hd2.below.size; simp only [World.size_alloc] at *; omega
    have HB2 := Aside0.mk (show Below w.heap.size w w2 from below_then (below_then ((Below.refl _ _).alloc (Nat.le_refl _) _) (by simp) hb1) (by have := hb1.size; simp only [World.size_alloc] at *; omega) hd2.below)
    have HR2 := Aside0.mk (show w2.heap[w.heap.size]? = some (.cells #[.string ⟨#[]⟩, .int .i64 0] 23 (0, 0)) by
      rw [hd2.below.block _ (by have := hb1.size; simp only [World.size_alloc] at this; omega), hb1.block _ (by simp)]
      exact heap_alloc_new w _)
    clear hb1 hd2
    cases hq : rightB (cutA (upperS a0) 45) 0 with
    | true =>
      have hpr := HR.out
      rw [show parseS a0 = (cutA (upperS a0) 45, 0, 0) by unfold parseS; rw [HH.out, if_neg (by decide), if_pos hq]] at hpr
      simp only [Prod.mk.injEq] at hpr
      obtain ⟨rfl, rfl, rfl⟩ := hpr
      have HQ := Aside0.mk hq
      clear hq HR
      go_wp2_with (fail)
      (with_reducible refine (call_Right.calls (cutA (upperS a0) 45) 0 true _ (by unfold call_Right.f; rw [if_pos hca, HQ.out])).mono ?_)
      rintro e w3 ⟨rfl, hb3⟩
      have HR3 := Aside0.mk ((hb3.block _ (by simp; omega)).trans ((Below.heap_alloc _ _ _ (by omega)).trans HR2.out))
      have HC3 := Aside0.mk ((hb3.block w2.heap.size (by simp)).trans (heap_alloc_new w2 _))
      obtain ⟨k0, k1, k2, k3⟩ := two_cell HR3.out
      obtain ⟨c0, c1, c2, c3⟩ := two_cell HC3.out
      have HB3 := Aside0.mk (below_then (HB2.out.alloc HB2.out.size _) (by simp; omega) hb3)
      clear hb3
      go_wp2_with (fail)
      refine bodyPost_ret (results_ct rfl _ _ w.heap.size 23 #[.string (cutA (upperS a0) 45), .int .i64 0] (0, 0) _ rfl (two_set HR3.out) Tryd.underlying23 rfl (by kernel_rfl)) rfl ?_
      exact ⟨rfl, (HB3.out.setCell (Nat.le_refl _) _).setCell (Nat.le_refl _) _⟩
    | false =>
      have hpr := HR.out
      rw [show parseS a0 = (⟨#[]⟩, 0, 12) by unfold parseS; rw [HH.out, if_neg (by decide), if_neg (by rw [hq]; decide)]] at hpr
      simp only [Prod.mk.injEq] at hpr
      obtain ⟨rfl, rfl, rfl⟩ := hpr
      have HQ := Aside0.mk hq
      clear hq HR
      go_wp2_with (fail)
      (with_reducible refine (call_Right.calls (cutA (upperS a0) 45) 0 false _ (by unfold call_Right.f; rw [if_pos hca, HQ.out])).mono ?_)
      rintro e w3 ⟨rfl, hb3⟩
      have HR3 := Aside0.mk ((hb3.block _ (by simp; omega)).trans ((Below.heap_alloc _ _ _ (by omega)).trans HR2.out))
      obtain ⟨k0, k1, k2, k3⟩ := two_cell HR3.out
      have HB3 := Aside0.mk (below_then (HB2.out.alloc HB2.out.size _) (by simp; omega) hb3)
      clear hb3
      go_wp2_with (fail)
      refine bodyPost_ret (results_ct rfl _ _ w.heap.size 23 #[.string ⟨#[]⟩, .int .i64 0] (0, 0) _ rfl (two_set HR3.out) Tryd.underlying23 rfl (by kernel_rfl)) rfl ?_
      exact ⟨rfl, (HB3.out.setCell (Nat.le_refl _) _).setCell (Nat.le_refl _) _⟩
  | true =>
    have HH := Aside0.mk hh
    clear hh
    go_wp2_with (fail)
    (with_reducible refine (cut_one (upperS a0) 45 _ (by omega)).mono ?_)
    rw [HH.out]
    rintro e w2 ⟨rfl, hd2⟩
    have hz1 : w.heap.size < w2.heap.size := by have := hb1.size; have := hd2.below.size; simp only [World.size_alloc] at *; omega
    have HB2 := Aside0.mk (show Below w.heap.size w w2 from below_then (below_then ((Below.refl _ _).alloc (Nat.le_refl _) _) (by simp) hb1) (by have := hb1.size; simp only [World.size_alloc] at *; omega) hd2.below)
    have HR2 := Aside0.mk (show w2.heap[w.heap.size]? = some (.cells #[.string ⟨#[]⟩, .int .i64 0] 23 (0, 0)) by
      rw [hd2.below.block _ (by have := hb1.size; simp only [World.size_alloc] at this; omega), hb1.block _ (by simp)]
      exact heap_alloc_new w _)
    clear hb1 hd2
    have HE2 := Aside0.mk (HE.out.below HB2.out)
    cases ha : Lib.atoiAll (cutB (upperS a0) 45).data.toList with
    | ok v =>
      have HA := Aside0.mk ha
      clear ha
      go_wp2_with (fail)
      (refine (Tryd.strconv_Atoi_ok (cutB (upperS a0) 45) (by omega) v HA.out _).mono ?_)
      rintro e w3 ⟨rfl, hw3⟩
      have hb3 : Below (w2.heap.size + 1) (w2.alloc (Obj.cells #[Value.string (cutA (upperS a0) 45), Value.int IntKind.i64 0] 23)) w3 := by
        rcases hw3 with rfl | ⟨t, rfl⟩
        · exact Below.refl _ _
        · exact bytes_below (Below.refl _ _) (by simp) _ _
      clear hw3
      obtain ⟨hv0, hv1⟩ := atoi_bounds HA.out
      have HE3 := Aside0.mk (HE2.out.below (below_then ((Below.refl _ _).alloc (Nat.le_refl _) _) (by simp) (by simpa using hb3)))
      have HR3 := Aside0.mk ((hb3.block _ (by omega)).trans ((Below.heap_alloc _ _ _ (by omega)).trans HR2.out))
      have HC3 := Aside0.mk ((hb3.block w2.heap.size (by omega)).trans (heap_alloc_new w2 _))
      have HB3 := Aside0.mk (below_then (HB2.out.alloc HB2.out.size _) (by simp; omega) (by simpa using hb3))
      have hz3 : w2.heap.size + 1 ≤ w3.heap.size := by have := hb3.size; simpa using this
      clear hb3
      have HV0 := Aside0.mk hv0
      have HV1 := Aside0.mk hv1
      clear hv0 hv1
      cases hi : decide (Lib.itoa v = (cutB (upperS a0) 45).data.toList) with
      | true =>
        have HI := Aside0.mk (of_decide_eq_true hi)
        clear hi
        go_wp2_with (fail)
        refine (Tryd.strconv_Itoa v HV0.out HV1.out _ HE3.out.tab).mono ?_
        rw [HI.out]
        rintro e w4 ⟨rfl, kk, os, hw4⟩
        have hb4 : Below w3.heap.size w3 w4 := by rw [hw4]; exact below_itoa w3 kk os
        clear hw4
        have HR4 := Aside0.mk ((hb4.block _ (by omega)).trans HR3.out)
        have HC4 := Aside0.mk ((hb4.block w2.heap.size (by omega)).trans HC3.out)
        have HB4 := Aside0.mk (below_then HB3.out (by omega) hb4)
        have hz4 := Nat.le_trans hz3 hb4.size
        clear hb4 HR3 HC3 HB3 hz3
        obtain ⟨c0, c1, c2, c3⟩ := two_cell HC4.out
        cases hq : rightB (cutA (upperS a0) 45) v with
        | true =>
          have hpr := HR.out
          rw [show parseS a0 = (cutA (upperS a0) 45, v, 0) by unfold parseS numOf; rw [HH.out, if_pos rfl, HA.out]; simp only [if_pos HI.out, if_pos hq]] at hpr
          simp only [Prod.mk.injEq] at hpr
          obtain ⟨rfl, rfl, rfl⟩ := hpr
          have HQ := Aside0.mk hq
          clear hq HR
          go_wp2_with (fail)
          (with_reducible refine (call_Right.calls (cutA (upperS a0) 45) v true _ (by unfold call_Right.f; rw [if_pos hca, HQ.out])).mono ?_)
          rintro e w5 ⟨rfl, hb5⟩
          have HR5 := Aside0.mk ((hb5.block w.heap.size (by simp [World.setCell]; omega)).trans ((Below.heap_setCell w4 ⟨w2.heap.size, 1, none⟩ (.int .i64 v) w.heap.size (by simp; omega)).trans HR4.out))
          have HC5 := Aside0.mk ((hb5.block w2.heap.size (by simp [World.setCell]; omega)).trans (one_set HC4.out))
          obtain ⟨k0, k1, k2, k3⟩ := two_cell HR5.out
          obtain ⟨d0, d1, d2, d3⟩ := two_cell HC5.out
          have HB5 := Aside0.mk (below_then (HB4.out.setCell (p := ⟨w2.heap.size, 1, none⟩) (show w.heap.size ≤ w2.heap.size by omega) (.int .i64 v)) (by simp [World.setCell]; omega) hb5)
          clear hb5 c0 c1 c2 c3
          go_wp2_with (fail)
          refine bodyPost_ret (results_ct rfl _ _ w.heap.size 23 #[.string (cutA (upperS a0) 45), .int .i64 v] (0, 0) _ rfl (two_set HR5.out) Tryd.underlying23 rfl (by kernel_rfl)) rfl ?_
          exact ⟨rfl, (HB5.out.setCell (Nat.le_refl _) _).setCell (Nat.le_refl _) _⟩
        | false =>
          have hpr := HR.out
          rw [show parseS a0 = (⟨#[]⟩, 0, 12) by unfold parseS numOf; rw [HH.out, if_pos rfl, HA.out]; simp only [if_pos HI.out, hq, Bool.false_eq_true, if_false]] at hpr
          simp only [Prod.mk.injEq] at hpr
          obtain ⟨rfl, rfl, rfl⟩ := hpr
          have HQ := Aside0.mk hq
          clear hq HR
          go_wp2_with (fail)
          (with_reducible refine (call_Right.calls (cutA (upperS a0) 45) v false _ (by unfold call_Right.f; rw [if_pos hca, HQ.out])).mono ?_)
          rintro e w5 ⟨rfl, hb5⟩
          have HR5 := Aside0.mk ((hb5.block w.heap.size (by simp [World.setCell]; omega)).trans ((Below.heap_setCell w4 ⟨w2.heap.size, 1, none⟩ (.int .i64 v) w.heap.size (by simp; omega)).trans HR4.out))
          have HC5 := Aside0.mk ((hb5.block w2.heap.size (by simp [World.setCell]; omega)).trans (one_set HC4.out))
          obtain ⟨k0, k1, k2, k3⟩ := two_cell HR5.out
          obtain ⟨d0, d1, d2, d3⟩ := two_cell HC5.out
          have HB5 := Aside0.mk (below_then (HB4.out.setCell (p := ⟨w2.heap.size, 1, none⟩) (show w.heap.size ≤ w2.heap.size by omega) (.int .i64 v)) (by simp [World.setCell]; omega) hb5)
          clear hb5 c0 c1 c2 c3
          go_wp2_with (fail)
          refine bodyPost_ret (results_ct rfl _ _ w.heap.size 23 #[.string ⟨#[]⟩, .int .i64 0] (0, 0) _ rfl (two_set HR5.out) Tryd.underlying23 rfl (by kernel_rfl)) rfl ?_
          exact ⟨rfl, (HB5.out.setCell (Nat.le_refl _) _).setCell (Nat.le_refl _) _⟩
      | false =>
        have hi' := of_decide_eq_false hi
        have HI := Aside0.mk hi'
        clear hi hi'
        have hpr := HR.out
        rw [show parseS a0 = (⟨#[]⟩, 0, 12) by unfold parseS numOf; rw [HH.out, if_pos rfl, HA.out]; simp only [if_neg HI.out]] at hpr
        simp only [Prod.mk.injEq] at hpr
        obtain ⟨rfl, rfl, rfl⟩ := hpr
        clear HR
        go_wp2_with (fail)
        refine (Tryd.strconv_Itoa v HV0.out HV1.out _ HE3.out.tab).mono ?_
        rintro e w4 ⟨rfl, kk, os, hw4⟩
        have hb4 : Below w3.heap.size w3 w4 := by rw [hw4]; exact below_itoa w3 kk os
        clear hw4
        have HR4 := Aside0.mk ((hb4.block _ (by omega)).trans HR3.out)
        have HB4 := Aside0.mk (below_then HB3.out (by omega) hb4)
        clear hb4 HR3 HC3 HB3
        obtain ⟨k0, k1, k2, k3⟩ := two_cell HR4.out
        have hne : (!Lib.itoa v == (cutB (upperS a0) 45).toList) = true := by rw [Go.ByteArray.toList_eq, beq_eq_false_iff_ne.mpr HI.out]; rfl
        go_wp2_with (fail)
        refine bodyPost_ret (results_ct rfl _ _ w.heap.size 23 #[.string ⟨#[]⟩, .int .i64 0] (0, 0) _ rfl (two_set HR4.out) Tryd.underlying23 rfl (by kernel_rfl)) rfl ?_
        exact ⟨rfl, (HB4.out.setCell (Nat.le_refl _) _).setCell (Nat.le_refl _) _⟩
    | range =>
      have HA := Aside0.mk ha
      clear ha
      have hpr := HR.out
      rw [show parseS a0 = (⟨#[]⟩, 0, 12) by unfold parseS numOf; rw [HH.out, if_pos rfl, HA.out]] at hpr
      simp only [Prod.mk.injEq] at hpr
      obtain ⟨rfl, rfl, rfl⟩ := hpr
      clear HR
      go_wp2_with (fail)
      obtain ⟨ev, he1, he2⟩ := HE2.out.rng
      (refine (Tryd.strconv_Atoi_range (cutB (upperS a0) 45) (by omega) HA.out ev _ (by rw [World.cell?_alloc_lt _ _ _ (World.block_lt_of_cell? _ _ he1)]; exact he1) he2).mono ?_)
      rintro e w3 ⟨N, rfl, hN, hc3, hb3⟩
      have HR3 := Aside0.mk ((hb3.block _ (by simp; omega)).trans ((Below.heap_alloc _ _ _ (by omega)).trans HR2.out))
      have HB3 := Aside0.mk (below_then (HB2.out.alloc HB2.out.size _) (by simp; omega) hb3)
      clear hb3 hc3 he1 he2
      obtain ⟨k0, k1, k2, k3⟩ := two_cell HR3.out
      go_wp2_with (fail)
      refine bodyPost_ret (results_ct rfl _ _ w.heap.size 23 #[.string ⟨#[]⟩, .int .i64 0] (0, 0) _ rfl (two_set HR3.out) Tryd.underlying23 rfl (by kernel_rfl)) rfl ?_
      exact ⟨rfl, (HB3.out.setCell (Nat.le_refl _) _).setCell (Nat.le_refl _) _⟩
    | _ =>
      have HA := Aside0.mk ha
      clear ha
      have hpr := HR.out
      rw [show parseS a0 = (⟨#[]⟩, 0, 12) by unfold parseS numOf; rw [HH.out, if_pos rfl, HA.out]] at hpr
      simp only [Prod.mk.injEq] at hpr
      obtain ⟨rfl, rfl, rfl⟩ := hpr
      clear HR
      go_wp2_with (fail)
      obtain ⟨ev, he1, he2⟩ := HE2.out.syn
      (refine (Tryd.strconv_Atoi_bad (cutB (upperS a0) 45) (by omega) (fun v e => by rw [HA.out] at e; cases e) (fun e => by rw [HA.out] at e; cases e) ev _ (by rw [World.cell?_alloc_lt _ _ _ (World.block_lt_of_cell? _ _ he1)]; exact he1) he2).mono ?_)
      rintro e w3 ⟨N, rfl, hN, hc3, hb3⟩
      have HR3 := Aside0.mk ((hb3.block _ (by simp; omega)).trans ((Below.heap_alloc _ _ _ (by omega)).trans HR2.out))
      have HB3 := Aside0.mk (below_then (HB2.out.alloc HB2.out.size _) (by simp; omega) hb3)
      clear hb3 hc3 he1 he2
      obtain ⟨k0, k1, k2, k3⟩ := two_cell HR3.out
      go_wp2_with (fail)
      refine bodyPost_ret (results_ct rfl _ _ w.heap.size 23 #[.string ⟨#[]⟩, .int .i64 0] (0, 0) _ rfl (two_set HR3.out) Tryd.underlying23 rfl (by kernel_rfl)) rfl ?_
      exact ⟨rfl, (HB3.out.setCell (Nat.le_refl _) _).setCell (Nat.le_refl _) _⟩
end Go.Proofs.YtpmieapgbdbabaaDoor.QAll
