/- Words, walks and plain laws that the row of the law ScriptNodes rests on. -/
import Derived.Test.YtndgaeldndgioaaGreatDoorMScriptNodes0
import Derived.Lib.SliceRun
import Derived.Test.YtndgaeldndgioaaGreatDoorMScriptNodes2
import Derived.Maps.OwnSet
import Derived.Maps.Views
import Derived.RegionTactic
import Derived.Deep.RegionHeld3
import Derived.MapKept
import Derived.Test.YtndgaeldndgioaaGreatDoorMScriptNodes1
import Derived.WalkArith
import Derived.Deep.RegionLaw
section
/- slices.Clone of digipeaters, walked by hand: the same ones, in new memory. -/
set_option linter.unusedVariables false
set_option linter.unusedSimpArgs false
namespace Go.Proofs.YtndgaeldndgioaaGreatDoor.QAll
open Go.RowKit Go.Proofs.YtndgaeldndgioaaGreatDoorW.PrintWords Go.Proofs.YtndgaeldndgioaaGreatDoorW.PrintLast Go.Proofs.YtndgaeldndgioaaGreatDoorW.PrintMore
theorem info37 : (Tryz.prog.info? 37).map (fun i => (i.zero, i.size, i.bytes)) = some (some (.agg #[(.string ⟨#[]⟩), (.int .i64 0)]), 2, 24) := by kernel_rfl
def api_Call_34.f (l0 : List S37) : Option (List S37) := if l0.length ≤ 1000000 then some l0 else none
set_option maxHeartbeats 1000000 in
set_option maxRecDepth 100000 in
theorem api_Call_34.calls (A0 : Option Addr) (c0 : Nat) (l0 : List (S37)) (r : List S37) (w : World) (hr0 : Kd.C k37 w A0 l0.length l0) (hc0 : l0.length ≤ c0) (h : api_Call_34.f l0 = some r) :
    Calls Tryz.prog 34 #[.slice A0 l0.length c0] w fun e w' => ∃ v0_ : Value, e = .returned (v0_) ∧ Kd.R k37 37 w' w.heap.size (fun _ => True) v0_ r ∧ Below w.heap.size w w' := by
  unfold api_Call_34.f at h
  split at h
  case isFalse => cases h
  rename_i hl
  obtain rfl := Option.some.inj h
  have HR := Aside0.mk hr0
  clear hr0 h
  have hu37 := Tryz.underlying37
  have hA : ∀ a l c W, (binOp .eql 38 (.slice a l c) (.slice none 0 0)).run Tryz.prog W = .ok (.bool a.isNone) W := fun a l c W => Lib.run_eql_slice_nil W 38 37 a l c 0 0 Tryz.underlying38
  cases A0 with
  | none =>
    have hnil : l0 = [] := by
      cases l0 with
      | nil => rfl
      | cons x r => obtain ⟨ad, e, _⟩ := at_T37 HR.out 0 (Int.le_refl _) (by simp); cases e
    subst hnil
    go_enter Tryz.func34, Tryz.ntmps34
    go_wp2_with (fail)
    go_ret
    exact ⟨_, rfl, Kd.R_nil _ _ _ _ _, Below.refl _ _⟩
  | some ad =>
    have HB := Aside0.mk (Below.refl w.heap.size w)
    have HL := Aside0.mk hl
    go_enter Tryz.func34, Tryz.ntmps34
    go_wp2_with (first | ((with_reducible refine gate_dst (N := 5) rfl ?_); refine Kd.R_lit k37 _ 37 ?hg (N := 5) ?hd (xs := ([] : List (S37))) (inner := []) (ok := fun _ => True) (okp := fun _ => True) ?hr ?hp (fun _ hk => hk) trivial (Below.refl _ _) (Nat.le_refl _) (by simp) ?_; (case hd => rfl); (case hg => rfl); (case hr => first | (go_simp; done) | (go_simp; rfl)); (case hp => exact (Reps.none _ _)); intro v242 w5 ho6 hb hg_ hnew_; have n0_ := Aside0.mk (Kd.R_lower ho6 (below_size HB.out)); have n2_ := Aside0.mk (below_step HB.out hb); clear HB; have HO := n0_; have HB := n2_; clear n0_ n2_; clear hb hg_ hnew_ ho6) | ((with_reducible refine gate_builtin (b := .append) (xs := #[.tmp 5, .tmp 6]) rfl ?_); at_builtin; refine Kd.R_append_rows k37 (w0 := w) w.heap.size rfl (.tmp 5) (.tmp 6) 38 37 (.agg #[(.string ⟨#[]⟩), (.int .i64 0)]) 24 rfl Tryz.underlying38 info37 rfl (by decide) (by omega) v242 [] l0 _ _ _ (fun _ => True) (fun _ => False) rfl rfl ?aO ?aR (fun _ _ h => h) (fun _ h => h.elim) ?aF ?aB ?aS ?aL ?_; (case aR => exact Kd.C_below HR.out HB.out); (case aB => exact HB.out); (case aF => exact (fun _ _ => trivial)); (case aO => exact HO.out); (case aS => exact (below_size HB.out)); (case aL => have := HL.out; simp; omega); intro v245 w8 ho hb hg hat))
    go_ret
    exact ⟨_, rfl, ho, hb⟩
end Go.Proofs.YtndgaeldndgioaaGreatDoor.QAll
end

section
/- digi.New, walked by hand: what it tells. -/
set_option linter.unusedVariables false
set_option linter.unusedSimpArgs false
namespace Go.Proofs.YtndgaeldndgioaaGreatDoor.QAll
open Go.RowKit Go.Proofs.YtndgaeldndgioaaGreatDoorW.PrintWords Go.Proofs.YtndgaeldndgioaaGreatDoorW.PrintLast Go.Proofs.YtndgaeldndgioaaGreatDoorW.PrintMore
def digiE (r : Bool) (n : Nat) : Int := if r = true then (if 4 < n then 6 else 0) else 12
set_option maxHeartbeats 4000000 in
set_option maxRecDepth 100000 in
theorem digi_New.calls (a0_0 : ByteArray) (a0_1 : Int) (A1 : Option Addr) (c1 : Nat) (l1 : List S37) (r : Bool) (w : World) (hr : Kd.C k37 w A1 l1.length l1) (hc : l1.length ≤ c1) (hl : l1.length ≤ 900000) (h : call_Distinct.f (⟨a0_0, a0_1⟩ :: l1) = some r) :
    Calls Tryz.prog 31 #[.agg #[.string a0_0, .int .i64 a0_1], .slice A1 l1.length c1] w fun e w' => (∃ p : Option Addr, e = .returned (.tuple #[.pointer p, .int .i64 (digiE r l1.length)])) ∧ Below w.heap.size w w' := by
  have HR := Aside0.mk hr
  have HD := Aside0.mk h
  have HL := Aside0.mk hl
  clear hr h
  have hu37 := Tryz.underlying37
  have HB := Aside0.mk ((Below.refl w.heap.size w).alloc (Nat.le_refl _) (.cells #[.string a0_0, .int .i64 a0_1] 37 (0, 0)))
  go_enter Tryz.func31, Tryz.ntmps31
  go_wp2_with (first | ((with_reducible refine gate_dst (N := 8) rfl ?_); refine Kd.R_lit k37 (w0 := w) w.heap.size 37 ?hg (N := 8) ?hd (xs := ([⟨a0_0, a0_1⟩] : List (S37))) (inner := [.string a0_0, .int .i64 a0_1]) (ok := fun _ => True) (okp := fun _ => True) ?hr ?hp (fun _ hk => hk) trivial HB.out (by simp) (by simp) ?_; (case hd => rfl); (case hg => rfl); (case hr => first | (go_simp; done) | (go_simp; rfl)); (case hp => exact Reps.c2 (k37_mkM _ _ _ _) (Reps.none _ _)); intro v8 w8 ho8 hb8 hg8 hnew8; have HO := Aside0.mk ho8; have HB8 := Aside0.mk hb8; clear hb8 hg8 hnew8 ho8) | ((with_reducible refine gate_builtin (b := .append) (xs := #[.tmp 8, .tmp 9]) rfl ?_); at_builtin; refine Kd.R_append_rows k37 (w0 := w) w.heap.size rfl (.tmp 8) (.tmp 9) 38 37 (.agg #[(.string ⟨#[]⟩), (.int .i64 0)]) 24 rfl Tryz.underlying38 info37 rfl (by decide) (by omega) v8 [⟨a0_0, a0_1⟩] l1 _ _ _ (fun _ => True) (fun _ => False) rfl rfl ?aO ?aR (fun _ _ h => h) (fun _ h => h.elim) ?aF ?aB ?aS ?aL ?_; (case aR => exact Kd.C_below HR.out HB8.out); (case aB => exact HB8.out); (case aF => exact (fun _ _ => trivial)); (case aO => exact HO.out); (case aS => exact (below_size HB8.out)); (case aL => have := HL.out; simp; omega); intro v10 w10 ho hb hg hat; have HO10 := Aside0.mk ho; have HB10 := Aside0.mk hb; clear ho hb hg hat HO HB8; obtain ⟨A10, c10, rfl, hc10, hC10⟩ := Kd.R_reads HO10.out))
  have hD' : call_Distinct.f ([⟨a0_0, a0_1⟩] ++ l1) = some r := by rw [List.singleton_append]; exact HD.out
  have hlen : ([⟨a0_0, a0_1⟩] ++ l1 : List S37).length = l1.length + 1 := by rw [List.singleton_append, List.length_cons]
  have hcD := call_Distinct.calls A10 c10 ([⟨a0_0, a0_1⟩] ++ l1) r w10 hC10 hc10 hD'
  rw [hlen] at hcD
  (with_reducible refine hcD.mono ?_)
  rintro e w11 ⟨rfl, hb⟩
  have HB11 := Aside0.mk (below_step HB10.out hb)
  clear hb hC10
  cases r with
  | false =>
    go_wp2_with (fail)
    go_ret2
    exact ⟨⟨_, rfl⟩, HB11.out⟩
  | true =>
    by_cases h4 : 4 < l1.length
    · have hb4 : ((4 : Int) < (l1.length : Int)) = True := eq_true (by omega)
      have hd4 : digiE true l1.length = 6 := by unfold digiE; rw [if_pos rfl, if_pos h4]
      go_wp2_with (fail)
      go_ret2
      exact ⟨⟨_, by rw [hd4]; rfl⟩, HB11.out⟩
    · have hb4 : ((4 : Int) < (l1.length : Int)) = False := eq_false (by omega)
      have hd4 : digiE true l1.length = 0 := by unfold digiE; rw [if_pos rfl, if_neg h4]
      go_wp2_with (fail)
      go_ret2
      exact ⟨⟨_, by rw [hd4]; rfl⟩, below_alloc HB11.out _⟩
end Go.Proofs.YtndgaeldndgioaaGreatDoor.QAll
end

section
/- shell.New, walked by hand: what it tells. -/
set_option linter.unusedVariables false
set_option linter.unusedSimpArgs false
namespace Go.Proofs.YtndgaeldndgioaaGreatDoor.QAll
open Go.RowKit Go.Proofs.YtndgaeldndgioaaGreatDoorW.PrintWords Go.Proofs.YtndgaeldndgioaaGreatDoorW.PrintLast Go.Proofs.YtndgaeldndgioaaGreatDoorW.PrintMore
theorem line_New_b (w : World) : Calls Tryz.prog 66 #[] w fun e w' => (∃ g : Nat, e = .returned (.pointer (some ⟨g, 0, none⟩))) ∧ Below w.heap.size w w' := by
  refine (line_New.calls [] false 0 w w (Below.refl _ _) rfl).mono ?_
  rintro e w' ⟨g, rfl, _, _, hb⟩
  exact ⟨⟨g, rfl⟩, hb⟩
set_option maxHeartbeats 4000000 in
set_option maxRecDepth 100000 in
theorem shell_New.calls (a0_0 : ByteArray) (a0_1 : Int) (rb : Bool) (w : World) (h : call_Right.f a0_0 a0_1 = some rb) :
    Calls Tryz.prog 40 #[.agg #[.string a0_0, .int .i64 a0_1]] w fun e w' => (∃ p : Option Addr, e = .returned (.tuple #[.pointer p, .int .i64 (if rb = true then 0 else 12)])) ∧ Below w.heap.size w w' := by
  have H := Aside0.mk h
  clear h
  have hmm := @run_makeMap Tryz.prog
  have HB := Aside0.mk ((Below.refl w.heap.size w).alloc (Nat.le_refl _) (.cells #[.string a0_0, .int .i64 a0_1] 37 (0, 0)))
  have HX := Aside0.mk (heap_alloc_new w (.cells #[.string a0_0, .int .i64 a0_1] 37 (0, 0)))
  go_enter Tryz.func40, Tryz.ntmps40
  go_wp2_with (fail)
  (with_reducible refine (call_Right.calls a0_0 a0_1 rb _ H.out).mono ?_)
  rintro r w2 ⟨rfl, hb⟩
  have HX2 := Aside0.mk ((hb.block _ (lt_of_some HX.out)).trans HX.out)
  have HB2 := Aside0.mk (below_step HB.out hb)
  have HZ2 := Aside0.mk (lt_of_some HX2.out)
  clear hb HX HB
  have k0 := (two_cell HX2.out).1
  have k1 := (two_cell HX2.out).2
  have hz := lt_of_some HX2.out
  cases rb with
  | false =>
    go_wp2_with (fail)
    go_ret2
    exact ⟨⟨_, rfl⟩, HB2.out⟩
  | true =>
    go_wp2_with (fail)
    go_region_with (first | (go_at_call 66; (with_reducible refine (line_New_b _).mono ?_); rintro r w' ⟨⟨gl, rfl⟩, hb⟩; have n0_ := Aside0.mk (below_step (by repeat (first | (with_reducible first | exact HB2.out | apply below_alloc | apply pw_below_drewN | apply below_drew1) | exact HB2.out)) hb); have n1_ := Aside0.mk (show w'.heap[w.heap.size]? = some (Obj.cells #[.string a0_0, .int .i64 a0_1] 37 (0, 0)) from blk_below (by (with_reducible repeat (first | refine blk_drewN ?_ _ | refine blk_drew ?_ | refine blk_alloc ?_ _)); exact HX2.out) hb); clear hb HB2 HX2 k0 k1 hz; have HB2 := n0_; have HX2 := n1_; clear n0_ n1_; have k0 := (two_cell HX2.out).1; have k1 := (two_cell HX2.out).2; have hz := lt_of_some HX2.out))
    all_goals go_wp2_with (fail)
    all_goals (go_ret2; exact ⟨⟨_, rfl⟩, by repeat (first | (with_reducible first | exact HB2.out | apply below_alloc | apply pw_below_drewN | apply below_drew1) | exact HB2.out)⟩)
end Go.Proofs.YtndgaeldndgioaaGreatDoor.QAll
end

section
/- fcs.New, walked by hand: it tells a table. -/
set_option linter.unusedVariables false
set_option linter.unusedSimpArgs false
namespace Go.Proofs.YtndgaeldndgioaaGreatDoor.QAll
open Go.RowKit Go.Proofs.YtndgaeldndgioaaGreatDoorW.PrintWords Go.Proofs.YtndgaeldndgioaaGreatDoorW.PrintLast Go.Proofs.YtndgaeldndgioaaGreatDoorW.PrintMore
theorem zero150 : Tryz.zeroCells150.size = 256 := by kernel_rfl
/-- The table's block. -/
def TB (g : Nat) (W : World) : Prop := ∃ cs, W.heap[g]? = some (.cells cs 150 (0, 0)) ∧ cs.size = 256
theorem TB_at {g : Nat} {W : World} (h : TB g W) (i : Nat) (hi : i < 256) : (∃ v, W.cell? ⟨g, i, none⟩ = some v) ∧ W.frozen? ⟨g, i, none⟩ = false := by
  obtain ⟨cs, h1, h2⟩ := h
  refine ⟨⟨cs[i]'(by omega), ?_⟩, Lib.frozen_of_heap h1 i⟩
  simp [World.cell?, h1, show i < cs.size by omega]
theorem TB_set {g : Nat} {W : World} (h : TB g W) (i : Nat) (u : Value) : TB g (W.setCell ⟨g, i, none⟩ u) := by
  obtain ⟨cs, h1, h2⟩ := h
  exact ⟨cs.setIfInBounds i u, by simp [World.setCell, Array.getElem?_modify, h1], by simp [h2]⟩
set_option maxHeartbeats 4000000 in
set_option maxRecDepth 100000 in
theorem fcs_New.calls (w : World) : Calls Tryz.prog 35 #[] w fun e w' => (∃ g, e = .returned (.pointer (some ⟨g, 0, none⟩))) ∧ Below w.heap.size w w' := by
  have HT := Aside0.mk (show TB w.heap.size (w.alloc (.cells Tryz.zeroCells150 150 (0, 0))) from ⟨_, heap_alloc_new _ _, zero150⟩)
  have HB := Aside0.mk ((Below.refl w.heap.size w).alloc (Nat.le_refl _) (.cells Tryz.zeroCells150 150 (0, 0)))
  go_enter Tryz.func35, Tryz.ntmps35
  go_wp2_with (fail)
  go_loopw [5] (fun v5 wr => ∃ i : Nat, i ≤ 256 ∧ v5 = .int .i64 i ∧ Aside0 (TB w.heap.size wr) ∧ Aside0 (Below w.heap.size w wr)) (fun v5 _ => 256 - (intOf v5).toNat)
  case atStart => exact ⟨0, by omega, rfl, HT, HB⟩
  case round =>
    clear HT HB
    obtain ⟨i, hi, rfl, HT, HB⟩ := hrel
    by_cases hlt : i < 256
    · go_wp2_with (fail)
      go_loopw [3, 10] (fun v3 v10 w' => ∃ (r : Int) (j : Nat), j ≤ 8 ∧ v3 = .int .u16 r ∧ v10 = .int .i64 j ∧ w' = wr) (fun _ v10 _ => 8 - (intOf v10).toNat)
      case atStart => exact ⟨_, 0, by omega, rfl, rfl, rfl⟩
      case round =>
        obtain ⟨r, j, hj, rfl, rfl, rfl⟩ := hrel
        by_cases hlj : j < 8
        · go_wp2_with (fail)
          all_goals (go_roundw; (case rel => exact ⟨_, j + 1, by omega, rfl, rfl, trivial⟩); (case measure => simp [intOf]; omega))
        · obtain rfl : j = 8 := by omega
          obtain ⟨⟨v, hv⟩, hf⟩ := TB_at HT.out i hlt
          go_wp2_with (fail)
          go_roundw
          case rel => exact ⟨i + 1, by omega, rfl, ⟨TB_set HT.out i _⟩, ⟨HB.out.setCell (p := ⟨w.heap.size, i, none⟩) (Nat.le_refl _) _⟩⟩
          case measure => simp [intOf]; omega
    · obtain rfl : i = 256 := by omega
      go_wp2_with (fail)
      go_ret
      exact ⟨⟨_, rfl⟩, HB.out⟩
end Go.Proofs.YtndgaeldndgioaaGreatDoor.QAll
end

section
/- node.New, walked by hand: what it tells. -/
set_option linter.unusedVariables false
set_option linter.unusedSimpArgs false
namespace Go.Proofs.YtndgaeldndgioaaGreatDoor.QAll
open Go.RowKit Go.Proofs.YtndgaeldndgioaaGreatDoorW.PrintWords Go.Proofs.YtndgaeldndgioaaGreatDoorW.PrintLast Go.Proofs.YtndgaeldndgioaaGreatDoorW.PrintMore
def newE (dr : Bool) (n : Nat) (rb xr tb : Bool) : Int := if digiE dr n = 0 then (if linksE rb xr = 0 then (if tb = true then 0 else 1) else linksE rb xr) else digiE dr n
/-- The config's block, and its aliases. -/
structure CX (w0 : World) (cs : Array Value) (A : Option Addr) (l : List S37) (W : World) : Prop where
  b : Below w0.heap.size w0 W
  h : W.heap[w0.heap.size]? = some (.cells cs 44 (0, 0))
  d : Kd.C k37 W A l.length l
theorem CX_below {w0 W W' : World} {cs : Array Value} {A : Option Addr} {l : List S37} (h : CX w0 cs A l W) (hb : Below W.heap.size W W') : CX w0 cs A l W' :=
  ⟨below_then h.b h.b.size hb, (hb.block _ (lt_of_some h.h)).trans h.h, Kd.C_below h.d hb⟩
theorem cells14 {w : World} {g : Nat} {v0 v1 v2 v3 v4 v5 v6 v7 v8 v9 v10 v11 v12 v13 : Value} {t : TypeId} (h : w.heap[g]? = some (.cells #[v0, v1, v2, v3, v4, v5, v6, v7, v8, v9, v10, v11, v12, v13] t (0, 0))) :
    (w.cell? ⟨g, 0, none⟩ = some v0 ∧ w.cell? ⟨g, 1, none⟩ = some v1 ∧ w.cell? ⟨g, 2, none⟩ = some v2 ∧ w.cell? ⟨g, 3, none⟩ = some v3 ∧ w.cell? ⟨g, 4, none⟩ = some v4 ∧ w.cell? ⟨g, 5, none⟩ = some v5 ∧ w.cell? ⟨g, 6, none⟩ = some v6) ∧ w.cell? ⟨g, 7, none⟩ = some v7 ∧ w.cell? ⟨g, 8, none⟩ = some v8 ∧ w.cell? ⟨g, 9, none⟩ = some v9 ∧ w.cell? ⟨g, 10, none⟩ = some v10 ∧ w.cell? ⟨g, 11, none⟩ = some v11 ∧ w.cell? ⟨g, 12, none⟩ = some v12 ∧ w.cell? ⟨g, 13, none⟩ = some v13 := by
  simp [World.cell?, h]
set_option maxHeartbeats 8000000 in
set_option maxRecDepth 100000 in
theorem node_New_err (a0 : ByteArray) (a1 : Int) (A1 : Option Addr) (c1 : Nat) (l1 : List S37) (b0 b1 : Bool) (b2 b3 b4 b5 p0 p1 p2 p3 : Int) (p4 : Bool) (dr rb xr : Bool) (w : World)
    (hr : Kd.C k37 w A1 l1.length l1) (hc : l1.length ≤ c1) (hl : l1.length ≤ 900000) (hd : call_Distinct.f (⟨a0, a1⟩ :: l1) = some dr) (hrb : call_Right.f a0 a1 = some rb) (hx : xid_Right.f b0 b1 b2 b3 b4 b5 = some xr) (he : newE dr l1.length rb xr (tncB p0 p1 p2 p3) ≠ 0) :
    Calls Tryz.prog 11 #[.agg #[.string a0, .int .i64 a1, .slice A1 l1.length c1, .bool b0, .bool b1, .int .i64 b2, .int .i64 b3, .int .i64 b4, .int .i64 b5, .int .i64 p0, .int .i64 p1, .int .i64 p2, .int .i64 p3, .bool p4]] w fun e w' => e = .returned (.tuple #[.pointer none, .int .i64 (newE dr l1.length rb xr (tncB p0 p1 p2 p3))]) ∧ Below w.heap.size w w' := by
  have HD := Aside0.mk hd
  have HRB := Aside0.mk hrb
  have HX := Aside0.mk hx
  have HE := Aside0.mk he
  have HL := Aside0.mk hl
  have HQ := Aside0.mk (show CX w #[.string a0, .int .i64 a1, .slice A1 l1.length c1, .bool b0, .bool b1, .int .i64 b2, .int .i64 b3, .int .i64 b4, .int .i64 b5, .int .i64 p0, .int .i64 p1, .int .i64 p2, .int .i64 p3, .bool p4] A1 l1 (w.alloc (.cells #[.string a0, .int .i64 a1, .slice A1 l1.length c1, .bool b0, .bool b1, .int .i64 b2, .int .i64 b3, .int .i64 b4, .int .i64 b5, .int .i64 p0, .int .i64 p1, .int .i64 p2, .int .i64 p3, .bool p4] 44 (0, 0))) from ⟨(Below.refl _ _).alloc (Nat.le_refl _) _, heap_alloc_new w _, Kd.C_alloc hr _⟩)
  clear hd hrb hx he hr hl
  go_enter Tryz.func11, Tryz.ntmps11
  go_wp2_with (fail)
  (with_reducible refine (digi_New.calls a0 a1 A1 c1 l1 dr _ HQ.out.d hc HL.out HD.out).mono ?_)
  rintro r w2 ⟨⟨pd, rfl⟩, hb⟩
  have HQ2 := Aside0.mk (CX_below HQ.out hb)
  clear hb HQ
  by_cases e1 : digiE dr l1.length = 0
  case neg =>
    have hb1 : (digiE dr l1.length != 0) = true := bne_iff_ne.2 e1
    have hn : newE dr l1.length rb xr (tncB p0 p1 p2 p3) = digiE dr l1.length := by unfold newE; rw [if_neg e1]
    go_wp2_with (fail)
    go_ret2
    exact ⟨by rw [hn]; rfl, HQ2.out.b⟩
  have hb1 : (digiE dr l1.length != 0) = false := by rw [e1]; rfl
  obtain ⟨⟨k0, k1, k2, k3, k4, k5, k6⟩, k7, k8, k9, k10, k11, k12, k13⟩ := cells14 HQ2.out.h
  go_wp2_with (fail)
  (with_reducible refine (links_New.calls a0 a1 b0 b1 b2 b3 b4 b5 rb xr _ HRB.out HX.out).mono ?_)
  rintro r w3 ⟨⟨pl, rfl⟩, hb⟩
  have HQ3 := Aside0.mk (CX_below HQ2.out hb)
  clear hb HQ2 k0 k1 k2 k3 k4 k5 k6 k7 k8 k9 k10 k11 k12 k13
  by_cases e2 : linksE rb xr = 0
  case neg =>
    have hb2 : (linksE rb xr != 0) = true := bne_iff_ne.2 e2
    have hn : newE dr l1.length rb xr (tncB p0 p1 p2 p3) = linksE rb xr := by unfold newE; rw [if_pos e1, if_neg e2]
    go_wp2_with (fail)
    go_ret2
    exact ⟨by rw [hn]; rfl, HQ3.out.b⟩
  have hb2 : (linksE rb xr != 0) = false := by rw [e2]; rfl
  obtain ⟨⟨k0, k1, k2, k3, k4, k5, k6⟩, k7, k8, k9, k10, k11, k12, k13⟩ := cells14 HQ3.out.h
  go_wp2_with (fail)
  (with_reducible refine (tnc_Right.calls p0 p1 p2 p3 p4 _).mono ?_)
  rintro r w4 ⟨rfl, hb⟩
  have HQ4 := Aside0.mk (CX_below HQ3.out hb)
  clear hb HQ3 k0 k1 k2 k3 k4 k5 k6 k7 k8 k9 k10 k11 k12 k13
  cases e3 : tncB p0 p1 p2 p3 with
  | true => exact absurd (by unfold newE; rw [if_pos e1, if_pos e2, e3]; rfl) HE.out
  | false =>
    have hn : newE dr l1.length rb xr (tncB p0 p1 p2 p3) = 1 := by unfold newE; rw [if_pos e1, if_pos e2, e3]; rfl
    go_wp2_with (fail)
    go_ret2
    exact ⟨by first | (rw [← e3, hn]; rfl) | (rw [hn]; rfl) | rfl, HQ4.out.b⟩
end Go.Proofs.YtndgaeldndgioaaGreatDoor.QAll
end

section
/- node.New where it does not fail, walked by hand. -/
set_option linter.unusedVariables false
set_option linter.unusedSimpArgs false
namespace Go.Proofs.YtndgaeldndgioaaGreatDoor.QAll
open Go.RowKit Go.Proofs.YtndgaeldndgioaaGreatDoorW.PrintWords Go.Proofs.YtndgaeldndgioaaGreatDoorW.PrintLast Go.Proofs.YtndgaeldndgioaaGreatDoorW.PrintMore
theorem heard_New_b (w : World) : Calls Tryz.prog 36 #[] w fun e w' => (∃ g : Nat, e = .returned (.pointer (some ⟨g, 0, none⟩))) ∧ Below w.heap.size w w' := by
  refine (heard_New.calls _ w w (Below.refl _ _) rfl).mono ?_
  rintro e w' ⟨g, rfl, _, _, hb⟩
  exact ⟨⟨g, rfl⟩, hb⟩
theorem kiss_New_b (w : World) : Calls Tryz.prog 37 #[.int .i64 400] w fun e w' => (∃ g : Nat, e = .returned (.pointer (some ⟨g, 0, none⟩))) ∧ Below w.heap.size w w' := by
  refine (kiss_New.calls 400 _ _ _ _ _ w w (Below.refl _ _) rfl).mono ?_
  rintro e w' ⟨g, rfl, _, _, hb⟩
  exact ⟨⟨g, rfl⟩, hb⟩
theorem csma_New_b (w : World) : Calls Tryz.prog 39 #[] w fun e w' => (∃ g : Nat, e = .returned (.pointer (some ⟨g, 0, none⟩))) ∧ Below w.heap.size w w' := by
  refine (csma_New.calls _ w w (Below.refl _ _) rfl).mono ?_
  rintro e w' ⟨g, rfl, _, _, hb⟩
  exact ⟨⟨g, rfl⟩, hb⟩
theorem below_setn {w0 W : World} {g : Nat} (hg : w0.heap.size < g) (h : Below w0.heap.size w0 W) {i : Nat} {u : Value} : Below w0.heap.size w0 (W.setCell ⟨g, i, none⟩ u) := h.setCell (p := ⟨g, i, none⟩) (Nat.le_of_lt hg) u
/-- The node's block. -/
def NB (g : Nat) (W : World) : Prop := ∃ cs, W.heap[g]? = some (.cells cs 109 (0, 0)) ∧ cs.size = 38
theorem NB_at {g : Nat} {W : World} (h : NB g W) (i : Nat) (hi : i < 38) : (∃ v, W.cell? ⟨g, i, none⟩ = some v) ∧ W.frozen? ⟨g, i, none⟩ = false := by
  obtain ⟨cs, h1, h2⟩ := h
  refine ⟨⟨cs[i]'(by omega), ?_⟩, Lib.frozen_of_heap h1 i⟩
  simp [World.cell?, h1, show i < cs.size by omega]
theorem NB_set {g : Nat} {W : World} (h : NB g W) (i : Nat) (u : Value) : NB g (W.setCell ⟨g, i, none⟩ u) := by
  obtain ⟨cs, h1, h2⟩ := h
  exact ⟨cs.setIfInBounds i u, by simp [World.setCell, Array.getElem?_modify, h1], by simp [h2]⟩
theorem NB_below {g : Nat} {W W' : World} (h : NB g W) (hb : Below W.heap.size W W') : NB g W' := by
  obtain ⟨cs, h1, h2⟩ := h
  exact ⟨cs, blk_below h1 hb, h2⟩
def SX (w0 : World) (v0 v1 v2 v3 v4 v5 v6 v7 v8 v9 v10 v11 v12 v13 : Value) (W : World) : Prop := Below w0.heap.size w0 W ∧ W.heap[w0.heap.size]? = some (.cells #[v0, v1, v2, v3, v4, v5, v6, v7, v8, v9, v10, v11, v12, v13] 44 (0, 0)) ∧ W.cell? ⟨w0.heap.size, 0, none⟩ = some v0 ∧ W.cell? ⟨w0.heap.size, 1, none⟩ = some v1 ∧ W.cell? ⟨w0.heap.size, 2, none⟩ = some v2 ∧ W.cell? ⟨w0.heap.size, 3, none⟩ = some v3 ∧ W.cell? ⟨w0.heap.size, 4, none⟩ = some v4 ∧ W.cell? ⟨w0.heap.size, 5, none⟩ = some v5 ∧ W.cell? ⟨w0.heap.size, 6, none⟩ = some v6 ∧ W.cell? ⟨w0.heap.size, 7, none⟩ = some v7 ∧ W.cell? ⟨w0.heap.size, 8, none⟩ = some v8 ∧ W.cell? ⟨w0.heap.size, 9, none⟩ = some v9 ∧ W.cell? ⟨w0.heap.size, 10, none⟩ = some v10 ∧ W.cell? ⟨w0.heap.size, 11, none⟩ = some v11 ∧ W.cell? ⟨w0.heap.size, 12, none⟩ = some v12 ∧ W.cell? ⟨w0.heap.size, 13, none⟩ = some v13
theorem SX_mk {w0 W : World} {v0 v1 v2 v3 v4 v5 v6 v7 v8 v9 v10 v11 v12 v13 : Value} (hb : Below w0.heap.size w0 W) (h : W.heap[w0.heap.size]? = some (.cells #[v0, v1, v2, v3, v4, v5, v6, v7, v8, v9, v10, v11, v12, v13] 44 (0, 0))) : SX w0 v0 v1 v2 v3 v4 v5 v6 v7 v8 v9 v10 v11 v12 v13 W := by
  obtain ⟨⟨k0, k1, k2, k3, k4, k5, k6⟩, k7, k8, k9, k10, k11, k12, k13⟩ := cells14 h
  exact ⟨hb, h, k0, k1, k2, k3, k4, k5, k6, k7, k8, k9, k10, k11, k12, k13⟩
theorem SX_call {w0 W W' : World} {v0 v1 v2 v3 v4 v5 v6 v7 v8 v9 v10 v11 v12 v13 : Value} (h : SX w0 v0 v1 v2 v3 v4 v5 v6 v7 v8 v9 v10 v11 v12 v13 W) (hb : Below W.heap.size W W') : SX w0 v0 v1 v2 v3 v4 v5 v6 v7 v8 v9 v10 v11 v12 v13 W' := SX_mk (below_then h.1 h.1.size hb) (blk_below h.2.1 hb)
theorem SX_drew {w0 W : World} {v0 v1 v2 v3 v4 v5 v6 v7 v8 v9 v10 v11 v12 v13 : Value} (h : SX w0 v0 v1 v2 v3 v4 v5 v6 v7 v8 v9 v10 v11 v12 v13 W) : SX w0 v0 v1 v2 v3 v4 v5 v6 v7 v8 v9 v10 v11 v12 v13 W.drew := SX_call h (below_drew (Below.refl _ _))
theorem SX_alloc {w0 W : World} {v0 v1 v2 v3 v4 v5 v6 v7 v8 v9 v10 v11 v12 v13 : Value} (h : SX w0 v0 v1 v2 v3 v4 v5 v6 v7 v8 v9 v10 v11 v12 v13 W) (o : Obj) : SX w0 v0 v1 v2 v3 v4 v5 v6 v7 v8 v9 v10 v11 v12 v13 (W.alloc o) := SX_call h ((Below.refl _ _).alloc (Nat.le_refl _) o)
theorem SX_set {w0 W : World} {v0 v1 v2 v3 v4 v5 v6 v7 v8 v9 v10 v11 v12 v13 : Value} (h : SX w0 v0 v1 v2 v3 v4 v5 v6 v7 v8 v9 v10 v11 v12 v13 W) {g : Nat} (hg : w0.heap.size < g) (i : Nat) (u : Value) : SX w0 v0 v1 v2 v3 v4 v5 v6 v7 v8 v9 v10 v11 v12 v13 (W.setCell ⟨g, i, none⟩ u) := SX_mk (h.1.setCell (p := ⟨g, i, none⟩) (Nat.le_of_lt hg) u) (set_ne h.2.1 (by omega) i u)
set_option maxHeartbeats 8000000 in
set_option maxRecDepth 100000 in
theorem node_New_ok (a0 : ByteArray) (a1 : Int) (A1 : Option Addr) (c1 : Nat) (l1 : List S37) (b0 b1 : Bool) (b2 b3 b4 b5 p0 p1 p2 p3 : Int) (p4 : Bool) (dr rb xr : Bool) (w : World)
    (hr : Kd.C k37 w A1 l1.length l1) (hc : l1.length ≤ c1) (hl : l1.length ≤ 900000) (hd : call_Distinct.f (⟨a0, a1⟩ :: l1) = some dr) (hrb : call_Right.f a0 a1 = some rb) (hx : xid_Right.f b0 b1 b2 b3 b4 b5 = some xr) (he : newE dr l1.length rb xr (tncB p0 p1 p2 p3) = 0) :
    Calls Tryz.prog 11 #[.agg #[.string a0, .int .i64 a1, .slice A1 l1.length c1, .bool b0, .bool b1, .int .i64 b2, .int .i64 b3, .int .i64 b4, .int .i64 b5, .int .i64 p0, .int .i64 p1, .int .i64 p2, .int .i64 p3, .bool p4]] w fun e w' => (∃ g, e = .returned (.tuple #[.pointer (some ⟨g, 0, none⟩), .int .i64 0])) ∧ Below w.heap.size w w' := by
  have HD := Aside0.mk hd
  have HRB := Aside0.mk hrb
  have HX := Aside0.mk hx
  have HE := Aside0.mk he
  have HL := Aside0.mk hl
  have HQ := Aside0.mk (show CX w #[.string a0, .int .i64 a1, .slice A1 l1.length c1, .bool b0, .bool b1, .int .i64 b2, .int .i64 b3, .int .i64 b4, .int .i64 b5, .int .i64 p0, .int .i64 p1, .int .i64 p2, .int .i64 p3, .bool p4] A1 l1 (w.alloc (.cells #[.string a0, .int .i64 a1, .slice A1 l1.length c1, .bool b0, .bool b1, .int .i64 b2, .int .i64 b3, .int .i64 b4, .int .i64 b5, .int .i64 p0, .int .i64 p1, .int .i64 p2, .int .i64 p3, .bool p4] 44 (0, 0))) from ⟨(Below.refl _ _).alloc (Nat.le_refl _) _, heap_alloc_new w _, Kd.C_alloc hr _⟩)
  clear hd hrb hx he hr hl
  go_enter Tryz.func11, Tryz.ntmps11
  go_wp2_with (fail)
  (with_reducible refine (digi_New.calls a0 a1 A1 c1 l1 dr _ HQ.out.d hc HL.out HD.out).mono ?_)
  rintro r w2 ⟨⟨pd, rfl⟩, hb⟩
  have HQ2 := Aside0.mk (CX_below HQ.out hb)
  clear hb HQ
  have e1 : digiE dr l1.length = 0 := by
    by_cases e1 : digiE dr l1.length = 0
    · exact e1
    · have h := HE.out
      unfold newE at h
      rw [if_neg e1] at h
      exact h
  have hb1 : (digiE dr l1.length != 0) = false := by rw [e1]; rfl
  obtain ⟨⟨k0, k1, k2, k3, k4, k5, k6⟩, k7, k8, k9, k10, k11, k12, k13⟩ := cells14 HQ2.out.h
  go_wp2_with (fail)
  (with_reducible refine (links_New.calls a0 a1 b0 b1 b2 b3 b4 b5 rb xr _ HRB.out HX.out).mono ?_)
  rintro r w3 ⟨⟨pl, rfl⟩, hb⟩
  have HQ3 := Aside0.mk (CX_below HQ2.out hb)
  clear hb HQ2 k0 k1 k2 k3 k4 k5 k6 k7 k8 k9 k10 k11 k12 k13
  have e2 : linksE rb xr = 0 := by
    by_cases e2 : linksE rb xr = 0
    · exact e2
    · have h := HE.out
      unfold newE at h
      rw [if_pos e1, if_neg e2] at h
      exact h
  have hb2 : (linksE rb xr != 0) = false := by rw [e2]; rfl
  obtain ⟨⟨k0, k1, k2, k3, k4, k5, k6⟩, k7, k8, k9, k10, k11, k12, k13⟩ := cells14 HQ3.out.h
  go_wp2_with (fail)
  (with_reducible refine (tnc_Right.calls p0 p1 p2 p3 p4 _).mono ?_)
  rintro r w4 ⟨rfl, hb⟩
  have HQ4 := Aside0.mk (CX_below HQ3.out hb)
  clear hb HQ3 k0 k1 k2 k3 k4 k5 k6 k7 k8 k9 k10 k11 k12 k13
  have e3 : tncB p0 p1 p2 p3 = true := by
    have h := HE.out
    unfold newE at h
    rw [if_pos e1, if_pos e2] at h
    by_cases e3 : tncB p0 p1 p2 p3 = true
    · exact e3
    · rw [if_neg e3] at h
      exact absurd h (by decide)
  obtain ⟨⟨k0, k1, k2, k3, k4, k5, k6⟩, k7, k8, k9, k10, k11, k12, k13⟩ := cells14 HQ4.out.h
  go_wp2_with (simp only [e3])
  (with_reducible refine (api_Call_34.calls A1 c1 l1 l1 _ HQ4.out.d hc (by unfold api_Call_34.f; rw [if_pos (by have := HL.out; omega)])).mono ?_)
  rintro r w5 ⟨v0, rfl, hR, hb⟩
  obtain ⟨A2, c2, rfl⟩ := Kd.R_slice hR
  have HQ5 := Aside0.mk (CX_below HQ4.out hb)
  clear hb hR HQ4 k0 k1 k2 k3 k4 k5 k6 k7 k8 k9 k10 k11 k12 k13
  obtain ⟨⟨k0, k1, k2, k3, k4, k5, k6⟩, k7, k8, k9, k10, k11, k12, k13⟩ := cells14 HQ5.out.h
  have f2 := Lib.frozen_of_heap HQ5.out.h 2
  have HX6 := Aside0.mk (show (w5.setCell ⟨w.heap.size, 2, none⟩ (.slice A2 l1.length c2)).heap[w.heap.size]? = some (.cells #[.string a0, .int .i64 a1, .slice A2 l1.length c2, .bool b0, .bool b1, .int .i64 b2, .int .i64 b3, .int .i64 b4, .int .i64 b5, .int .i64 p0, .int .i64 p1, .int .i64 p2, .int .i64 p3, .bool p4] 44 (0, 0)) by simp [World.setCell, Array.getElem?_modify, HQ5.out.h])
  have HB6 := Aside0.mk (HQ5.out.b.setCell (p := ⟨w.heap.size, 2, none⟩) (Nat.le_refl _) (.slice A2 l1.length c2))
  obtain ⟨w6, hw6⟩ : ∃ w6, w5.setCell ⟨w.heap.size, 2, none⟩ (.slice A2 l1.length c2) = w6 := ⟨_, rfl⟩
  rw [hw6] at HX6 HB6
  go_wp2_with (fail)
  have hS6 := SX_mk HB6.out HX6.out
  unfold SX at hS6
  go_region_held3 (fun w' => Below w.heap.size w w' ∧ w'.heap[w.heap.size]? = some (.cells #[.string a0, .int .i64 a1, .slice A2 l1.length c2, .bool b0, .bool b1, .int .i64 b2, .int .i64 b3, .int .i64 b4, .int .i64 b5, .int .i64 p0, .int .i64 p1, .int .i64 p2, .int .i64 p3, .bool p4] 44 (0, 0)) ∧ w'.cell? ⟨w.heap.size, 0, none⟩ = some (.string a0) ∧ w'.cell? ⟨w.heap.size, 1, none⟩ = some (.int .i64 a1) ∧ w'.cell? ⟨w.heap.size, 2, none⟩ = some (.slice A2 l1.length c2) ∧ w'.cell? ⟨w.heap.size, 3, none⟩ = some (.bool b0) ∧ w'.cell? ⟨w.heap.size, 4, none⟩ = some (.bool b1) ∧ w'.cell? ⟨w.heap.size, 5, none⟩ = some (.int .i64 b2) ∧ w'.cell? ⟨w.heap.size, 6, none⟩ = some (.int .i64 b3) ∧ w'.cell? ⟨w.heap.size, 7, none⟩ = some (.int .i64 b4) ∧ w'.cell? ⟨w.heap.size, 8, none⟩ = some (.int .i64 b5) ∧ w'.cell? ⟨w.heap.size, 9, none⟩ = some (.int .i64 p0) ∧ w'.cell? ⟨w.heap.size, 10, none⟩ = some (.int .i64 p1) ∧ w'.cell? ⟨w.heap.size, 11, none⟩ = some (.int .i64 p2) ∧ w'.cell? ⟨w.heap.size, 12, none⟩ = some (.int .i64 p3) ∧ w'.cell? ⟨w.heap.size, 13, none⟩ = some (.bool p4)) (first | exact SX_call (by assumption) (by assumption) | exact SX_drew (by assumption) | exact SX_alloc (by assumption) _ | assumption) (first | (go_at_call 35; (with_reducible refine (fcs_New.calls _).mono ?_); rintro r w35 ⟨⟨g35, rfl⟩, h35⟩) | (go_at_call 36; (with_reducible refine (heard_New_b _).mono ?_); rintro r w36 ⟨⟨g36, rfl⟩, h36⟩) | (go_at_call 37; (with_reducible refine (kiss_New_b _).mono ?_); rintro r w37 ⟨⟨g37, rfl⟩, h37⟩) | (go_at_call 38; (with_reducible refine (txq_New.calls _).mono ?_); rintro r w38 ⟨⟨g38, rfl⟩, h38⟩) | (go_at_call 39; (with_reducible refine (csma_New_b _).mono ?_); rintro r w39 ⟨⟨g39, rfl⟩, h39⟩))
  have hlast : SX w (.string a0) (.int .i64 a1) (.slice A2 l1.length c2) (.bool b0) (.bool b1) (.int .i64 b2) (.int .i64 b3) (.int .i64 b4) (.int .i64 b5) (.int .i64 p0) (.int .i64 p1) (.int .i64 p2) (.int .i64 p3) (.bool p4) (w39.alloc (.cells #[.pointer pd, .string a0, .int .i64 a1, .slice A2 l1.length c2, .bool b0, .bool b1, .int .i64 b2, .int .i64 b3, .int .i64 b4, .int .i64 b5, .int .i64 p0, .int .i64 p1, .int .i64 p2, .int .i64 p3, .bool p4, .pointer (some ⟨g35, 0, none⟩), .pointer none, .pointer pl, .pointer (some ⟨g36, 0, none⟩), .pointer none, .pointer (some ⟨g37, 0, none⟩), .pointer (some ⟨g38, 0, none⟩), .pointer (some ⟨g39, 0, none⟩), .string ⟨#[]⟩, .int .i64 0, .string ⟨#[]⟩, .int .i64 0, .slice none 0 0, .int .i64 0, .string ⟨#[]⟩, .int .i64 0, .int .i64 0, .int .i64 0, .int .i64 0, .slice none 0 0, .slice none 0 0, .int .i64 0, .bool false] 109 (0, 0))) := by assumption
  have HS7 := Aside0.mk hlast
  have HN7 := Aside0.mk (show NB w39.heap.size (w39.alloc (.cells #[.pointer pd, .string a0, .int .i64 a1, .slice A2 l1.length c2, .bool b0, .bool b1, .int .i64 b2, .int .i64 b3, .int .i64 b4, .int .i64 b5, .int .i64 p0, .int .i64 p1, .int .i64 p2, .int .i64 p3, .bool p4, .pointer (some ⟨g35, 0, none⟩), .pointer none, .pointer pl, .pointer (some ⟨g36, 0, none⟩), .pointer none, .pointer (some ⟨g37, 0, none⟩), .pointer (some ⟨g38, 0, none⟩), .pointer (some ⟨g39, 0, none⟩), .string ⟨#[]⟩, .int .i64 0, .string ⟨#[]⟩, .int .i64 0, .slice none 0 0, .int .i64 0, .string ⟨#[]⟩, .int .i64 0, .int .i64 0, .int .i64 0, .int .i64 0, .slice none 0 0, .slice none 0 0, .int .i64 0, .bool false] 109 (0, 0))) from ⟨_, heap_alloc_new w39 _, rfl⟩)
  have hgn : w.heap.size < w39.heap.size := by
    have h1 := hlast.2.1
    have h2 := lt_of_some h1
    rw [World.size_alloc] at h2
    by_cases h3 : w.heap.size = w39.heap.size
    · rw [h3, heap_alloc_new] at h1
      injection h1 with h4
      injection h4 with _ h5
      cases h5
    · omega
  obtain ⟨w7, hw7⟩ : ∃ w7, w39.alloc (.cells #[.pointer pd, .string a0, .int .i64 a1, .slice A2 l1.length c2, .bool b0, .bool b1, .int .i64 b2, .int .i64 b3, .int .i64 b4, .int .i64 b5, .int .i64 p0, .int .i64 p1, .int .i64 p2, .int .i64 p3, .bool p4, .pointer (some ⟨g35, 0, none⟩), .pointer none, .pointer pl, .pointer (some ⟨g36, 0, none⟩), .pointer none, .pointer (some ⟨g37, 0, none⟩), .pointer (some ⟨g38, 0, none⟩), .pointer (some ⟨g39, 0, none⟩), .string ⟨#[]⟩, .int .i64 0, .string ⟨#[]⟩, .int .i64 0, .slice none 0 0, .int .i64 0, .string ⟨#[]⟩, .int .i64 0, .int .i64 0, .int .i64 0, .int .i64 0, .slice none 0 0, .slice none 0 0, .int .i64 0, .bool false] 109 (0, 0)) = w7 := ⟨_, rfl⟩
  rw [hw7] at HS7 HN7
  rw [hw7]
  generalize w39.heap.size = gn at HN7 hgn ⊢
  have hrbt : rb = true := by
    cases rb with
    | true => rfl
    | false => exact absurd e2 (by unfold linksE; rw [if_neg Bool.false_ne_true]; decide)
  subst hrbt
  clear k0 k1 k2 k3 k4 k5 k6 k7 k8 k9 k10 k11 k12 k13 hlast hw7
  obtain ⟨hb7, hh7, k0, k1, k2, k3, k4, k5, k6, k7, k8, k9, k10, k11, k12, k13⟩ := HS7.out
  go_wp2_with (fail)
  (with_reducible refine (shell_New.calls a0 a1 true _ HRB.out).mono ?_)
  rintro r w8 ⟨⟨ps, rfl⟩, hb⟩
  have HN8 := Aside0.mk (NB_below HN7.out hb)
  have HS9 := Aside0.mk (SX_set (SX_call HS7.out hb) hgn 16 (.pointer ps))
  have HN9 := Aside0.mk (NB_set HN8.out 16 (.pointer ps))
  clear hb HS7 HN7 hb7 hh7 k0 k1 k2 k3 k4 k5 k6 k7 k8 k9 k10 k11 k12 k13
  obtain ⟨⟨q16, hq16⟩, hf16⟩ := NB_at HN8.out 16 (by omega)
  obtain ⟨w9, hw9⟩ : ∃ w9, w8.setCell ⟨gn, 16, none⟩ (.pointer ps) = w9 := ⟨_, rfl⟩
  rw [hw9] at HS9 HN9
  obtain ⟨hb7, hh7, k0, k1, k2, k3, k4, k5, k6, k7, k8, k9, k10, k11, k12, k13⟩ := HS9.out
  go_wp2_with (fail)
  (with_reducible refine (ui_New.calls a0 a1 true _ HRB.out).mono ?_)
  rintro r w10 ⟨⟨pu, rfl⟩, hb⟩
  have HN10 := Aside0.mk (NB_below HN9.out hb)
  have HS11 := Aside0.mk (SX_set (SX_call HS9.out hb) hgn 19 (.pointer pu))
  have HN11 := Aside0.mk (NB_set HN10.out 19 (.pointer pu))
  clear hb HS9 HN9 HN8 hb7 hh7 k0 k1 k2 k3 k4 k5 k6 k7 k8 k9 k10 k11 k12 k13 hq16 hf16 hw9
  obtain ⟨⟨q19, hq19⟩, hf19⟩ := NB_at HN10.out 19 (by omega)
  obtain ⟨w11, hw11⟩ : ∃ w11, w10.setCell ⟨gn, 19, none⟩ (.pointer pu) = w11 := ⟨_, rfl⟩
  rw [hw11] at HS11 HN11
  obtain ⟨hb7, hh7, k0, k1, k2, k3, k4, k5, k6, k7, k8, k9, k10, k11, k12, k13⟩ := HS11.out
  obtain ⟨⟨q23, hq23⟩, hf23⟩ := NB_at HN11.out 23 (by omega)
  obtain ⟨⟨q24, hq24⟩, hf24⟩ := NB_at HN11.out 24 (by omega)
  obtain ⟨⟨q25, hq25⟩, hf25⟩ := NB_at HN11.out 25 (by omega)
  obtain ⟨⟨q26, hq26⟩, hf26⟩ := NB_at HN11.out 26 (by omega)
  obtain ⟨⟨q27, hq27⟩, hf27⟩ := NB_at HN11.out 27 (by omega)
  obtain ⟨⟨q28, hq28⟩, hf28⟩ := NB_at HN11.out 28 (by omega)
  obtain ⟨⟨q29, hq29⟩, hf29⟩ := NB_at HN11.out 29 (by omega)
  go_wp2_with (fail)
  go_ret2
  exact ⟨⟨gn, rfl⟩, by repeat (with_reducible first | exact hb7 | apply below_setn hgn)⟩
theorem node_New.calls (a0 : ByteArray) (a1 : Int) (A1 : Option Addr) (c1 : Nat) (l1 : List S37) (b0 b1 : Bool) (b2 b3 b4 b5 p0 p1 p2 p3 : Int) (p4 : Bool) (dr rb xr : Bool) (w : World)
    (hr : Kd.C k37 w A1 l1.length l1) (hc : l1.length ≤ c1) (hl : l1.length ≤ 900000) (hd : call_Distinct.f (⟨a0, a1⟩ :: l1) = some dr) (hrb : call_Right.f a0 a1 = some rb) (hx : xid_Right.f b0 b1 b2 b3 b4 b5 = some xr) :
    Calls Tryz.prog 11 #[.agg #[.string a0, .int .i64 a1, .slice A1 l1.length c1, .bool b0, .bool b1, .int .i64 b2, .int .i64 b3, .int .i64 b4, .int .i64 b5, .int .i64 p0, .int .i64 p1, .int .i64 p2, .int .i64 p3, .bool p4]] w fun e w' => (∃ p : Option Addr, (newE dr l1.length rb xr (tncB p0 p1 p2 p3) = 0 → p ≠ none) ∧ e = .returned (.tuple #[.pointer p, .int .i64 (newE dr l1.length rb xr (tncB p0 p1 p2 p3))])) ∧ Below w.heap.size w w' := by
  by_cases he : newE dr l1.length rb xr (tncB p0 p1 p2 p3) = 0
  · refine (node_New_ok a0 a1 A1 c1 l1 b0 b1 b2 b3 b4 b5 p0 p1 p2 p3 p4 dr rb xr w hr hc hl hd hrb hx he).mono ?_
    rintro e w' ⟨⟨g, rfl⟩, hb⟩
    exact ⟨⟨some ⟨g, 0, none⟩, (fun _ h => by cases h), by rw [he]⟩, hb⟩
  · refine (node_New_err a0 a1 A1 c1 l1 b0 b1 b2 b3 b4 b5 p0 p1 p2 p3 p4 dr rb xr w hr hc hl hd hrb hx he).mono ?_
    rintro e w' ⟨rfl, hb⟩
    exact ⟨⟨none, (fun h => absurd h he), rfl⟩, hb⟩
end Go.Proofs.YtndgaeldndgioaaGreatDoor.QAll
end

section
/- Maps of pointers by numbers: how one is put in, and found. -/
set_option linter.unusedVariables false
set_option linter.unusedSimpArgs false
namespace Go.Proofs.YtndgaeldndgioaaGreatDoor.QAll
open Go.RowKit Go.Proofs.YtndgaeldndgioaaGreatDoorW.PrintWords Go.Proofs.YtndgaeldndgioaaGreatDoorW.PrintLast Go.Proofs.YtndgaeldndgioaaGreatDoorW.PrintMore
/-- The block r turned to another object. -/
def mset (W : World) (r : Nat) (o : Obj) : World := { W with heap := W.heap.setIfInBounds r o }
theorem mset_at {W : World} {r : Nat} {o o' : Obj} (hb : W.heap[r]? = some o) : (mset W r o').heap[r]? = some o' := (MapKept.heap_set hb).1
theorem mset_ne {W : World} {r i : Nat} {o : Obj} (h : i ≠ r) : (mset W r o).heap[i]? = W.heap[i]? := by
  unfold mset
  simp [Array.getElem?_setIfInBounds, Ne.symm h]
set_option maxRecDepth 100000 in
theorem map_put (W : World) (mty et r clk : Nat) (es : Array MapEntry) (k : Int) (v : Value) (hm : Tryz.prog.underlying mty = some (.map 3 et)) (hb : W.heap[r]? = some (.map es clk)) (hn : Instr.findNow (.int .i64) (.int .i64 k) es.toList 0 = some none) :
    (Instr.mapUpdate mty (.map (some r)) (.int .i64 k) v).run Tryz.prog W = .ok () (mset W r (.map (es.push { key := .int .i64 k, val := v, born := clk }) (clk + 1))) := by
  unfold Instr.mapUpdate
  rw [Sem.run_bind, run_underlying hm]
  simp only [Result.andThen_ok, Sem.run_bind, MapKept.run_getObj_map hb, MapKept.run_checkKey Tryz.underlying3 (k := .int .i64 k) (rfl : IntKind.i64 = IntKind.i64) _ 9999, MapKept.run_findKey Tryz.underlying3 hn, MapKept.run_setObj_map _ hb]
  rfl
set_option maxRecDepth 100000 in
theorem map_get (W : World) (mty et r clk : Nat) (es : Array MapEntry) (k : Int) (v : Value) (i : Nat) (hm : Tryz.prog.underlying mty = some (.map 3 et)) (hb : W.heap[r]? = some (.map es clk)) (hn : Instr.findNow (.int .i64) (.int .i64 k) es.toList 0 = some (some (i, v))) :
    (Instr.lookup mty (.map (some r)) (.int .i64 k) false).run Tryz.prog W = .ok v W := by
  unfold Instr.lookup
  rw [Sem.run_bind, run_underlying hm]
  simp only [Result.andThen_ok, Sem.run_bind, Sem.run_pure, MapKept.run_getObj_map hb, MapKept.run_checkKey Tryz.underlying3 (k := .int .i64 k) (rfl : IntKind.i64 = IntKind.i64) _ 9999, MapKept.run_findKey Tryz.underlying3 hn]
  rfl
set_option maxRecDepth 100000 in
theorem map_miss (W : World) (mty et r clk : Nat) (es : Array MapEntry) (k : Int) (z : Value) (hm : Tryz.prog.underlying mty = some (.map 3 et)) (hz : (zeroValue et).run Tryz.prog W = .ok z W) (hb : W.heap[r]? = some (.map es clk)) (hn : Instr.findNow (.int .i64) (.int .i64 k) es.toList 0 = some none) :
    (Instr.lookup mty (.map (some r)) (.int .i64 k) false).run Tryz.prog W = .ok z W := by
  unfold Instr.lookup
  rw [Sem.run_bind, run_underlying hm]
  simp only [Result.andThen_ok, Sem.run_bind, Sem.run_pure, MapKept.run_getObj_map hb, MapKept.run_checkKey Tryz.underlying3 (k := .int .i64 k) (rfl : IntKind.i64 = IntKind.i64) _ 9999, MapKept.run_findKey Tryz.underlying3 hn, hz]
  rfl
end Go.Proofs.YtndgaeldndgioaaGreatDoor.QAll
end

section
/- script.flags and script.sizes, walked by hand: which pointer stands at which number, whatever order the literal's inserts come in. -/
set_option linter.unusedVariables false
set_option linter.unusedSimpArgs false
namespace Go.Proofs.YtndgaeldndgioaaGreatDoor.QAll
open Go.RowKit Go.Proofs.YtndgaeldndgioaaGreatDoorW.PrintWords Go.Proofs.YtndgaeldndgioaaGreatDoorW.PrintLast Go.Proofs.YtndgaeldndgioaaGreatDoorW.PrintMore
/-- What a map's entries tell of each number. -/
def FM (es : Array MapEntry) (f : Int → Option Value) : Prop := ∀ k, ∃ r, Instr.findNow (.int .i64) (.int .i64 k) es.toList 0 = some r ∧ r.map (·.2) = f k
theorem FM_empty : FM #[] (fun _ => none) := fun k => ⟨none, rfl, rfl⟩
theorem find_snoc (k k' : Int) (v : Value) (bn : Nat) : ∀ (l : List MapEntry) (i : Nat) (r : Option (Nat × Value)), Instr.findNow (.int .i64) (.int .i64 k) l i = some r →
    ∃ r', Instr.findNow (.int .i64) (.int .i64 k) (l ++ [{ key := .int .i64 k', val := v, born := bn }]) i = some r' ∧ r'.map (·.2) = (match r with
      | some p => some p.2
      | none => if k = k' then some v else none)
  | [], i, r, h => by
    simp only [Instr.findNow] at h
    obtain rfl := Option.some.inj h
    simp only [List.nil_append, Instr.findNow, Instr.sameNow]
    by_cases hk : k = k'
    · subst hk
      simp
    · have hb : (k == k') = false := beq_eq_false_iff_ne.2 hk
      simp [hk, hb]
  | x :: l, i, r, h => by
    rw [List.cons_append]
    simp only [Instr.findNow] at h ⊢
    cases hs : Instr.sameNow (.int .i64) (.int .i64 k) x.key with
    | none => rw [hs] at h; simp at h
    | some b =>
      rw [hs] at h
      cases b with
      | true =>
        simp at h ⊢
        subst h
        rfl
      | false =>
        simp at h ⊢
        exact find_snoc k k' v bn l (i + 1) r h
theorem FM_push {es : Array MapEntry} {f : Int → Option Value} (h : FM es f) (k : Int) (v : Value) (bn : Nat) (hk : f k = none) : FM (es.push { key := .int .i64 k, val := v, born := bn }) (fun j => if j = k then some v else f j) := fun j => by
  obtain ⟨r, h1, h2⟩ := h j
  obtain ⟨r', q1, q2⟩ := find_snoc j k v bn es.toList 0 r h1
  refine ⟨r', by rw [Array.toList_push]; exact q1, ?_⟩
  rw [q2]
  cases r with
  | some p =>
    show some p.2 = (if j = k then some v else f j)
    have h3 : f j = some p.2 := h2.symm
    by_cases hj : j = k
    · rw [hj, hk] at h3
      cases h3
    · rw [if_neg hj, h3]
  | none =>
    show (if j = k then some v else none) = (if j = k then some v else f j)
    have h3 : f j = none := h2.symm
    by_cases hj : j = k
    · rw [if_pos hj, if_pos hj]
    · rw [if_neg hj, if_neg hj, h3]
theorem FM_none {es : Array MapEntry} {f : Int → Option Value} (h : FM es f) (k : Int) (hk : f k = none) : Instr.findNow (.int .i64) (.int .i64 k) es.toList 0 = some none := by
  obtain ⟨r, h1, h2⟩ := h k
  rw [hk] at h2
  cases r with
  | none => exact h1
  | some p => cases h2
theorem FM_some {es : Array MapEntry} {f : Int → Option Value} (h : FM es f) (k : Int) (v : Value) (hk : f k = some v) : ∃ i, Instr.findNow (.int .i64) (.int .i64 k) es.toList 0 = some (some (i, v)) := by
  obtain ⟨r, h1, h2⟩ := h k
  rw [hk] at h2
  cases r with
  | none => cases h2
  | some p =>
    obtain ⟨i, u⟩ := p
    obtain rfl := Option.some.inj h2
    exact ⟨i, h1⟩
theorem mset_below {B : Nat} {w W : World} {r : Nat} {o : Obj} (h : Below B w W) (hr : B ≤ r) : Below B w (mset W r o) := by
  exact h.trans ⟨rfl, rfl, rfl, by simp [mset], fun k hk => mset_ne (by omega)⟩
def script_flags.T1 : Bool × List (List Nat × List Nat) := (true, [([], []), ([], []), ([1], [1]), ([2], [2]), ([3], [3]), ([0, 4], [0, 4]), ([], []), ([6], [6]), ([7], [7]), ([8], [8]), ([0, 9], [0, 9]), ([], []), ([11], [11]), ([12], [12]), ([13], [13]), ([0, 14], [0, 14]), ([0, 1, 2, 3, 4, 5, 6, 7, 8, 9, 10, 11, 12, 13, 14, 15], [0]), ([16, 0, 1, 2, 3, 4, 5, 6, 7, 8, 9, 10, 11, 12, 13, 14, 15, 16], [16])])
def script_flags.B1 : List Nat := [0, 0, 2, 6, 14, 31, 0, 64, 192, 448, 961, 0, 2048, 6144, 14336, 30721, 65535, 131071]
theorem script_flags.tab1 : rtab .any (opsOf Tryz.f26 1) = script_flags.T1 := by kernel_rfl
theorem script_flags.bits1 : waitsOk script_flags.T1.2 script_flags.B1 = true := by kernel_rfl
def script_flags_f (g : Nat) (c0 c1 c2 : Bool) : Int → Option Value := fun k => if k = 0 then (if c0 = true then some (.pointer (some ⟨g, 3, none⟩)) else none) else if k = 1 then (if c1 = true then some (.pointer (some ⟨g, 4, none⟩)) else none) else if k = 10 then (if c2 = true then some (.pointer (some ⟨g, 13, none⟩)) else none) else none
theorem script_flags_f0 (g : Nat) : script_flags_f g false false false = fun _ => none := by
  funext k
  unfold script_flags_f
  repeat' split
  all_goals first | rfl | contradiction
theorem script_flags_fp0 (g : Nat) (c1 c2 : Bool) : (fun i => if i = 0 then some (.pointer (some ⟨g, 3, none⟩)) else script_flags_f g false c1 c2 i) = script_flags_f g true c1 c2 := by
  funext i
  unfold script_flags_f
  by_cases h : i = 0
  · subst h
    simp
  · simp [h]
theorem script_flags_fn0 (g : Nat) (c1 c2 : Bool) : script_flags_f g false c1 c2 0 = none := by
  unfold script_flags_f
  simp
theorem script_flags_fp1 (g : Nat) (c0 c2 : Bool) : (fun i => if i = 1 then some (.pointer (some ⟨g, 4, none⟩)) else script_flags_f g c0 false c2 i) = script_flags_f g c0 true c2 := by
  funext i
  unfold script_flags_f
  by_cases h : i = 1
  · subst h
    simp
  · simp [h]
theorem script_flags_fn1 (g : Nat) (c0 c2 : Bool) : script_flags_f g c0 false c2 1 = none := by
  unfold script_flags_f
  simp
theorem script_flags_fp2 (g : Nat) (c0 c1 : Bool) : (fun i => if i = 10 then some (.pointer (some ⟨g, 13, none⟩)) else script_flags_f g c0 c1 false i) = script_flags_f g c0 c1 true := by
  funext i
  unfold script_flags_f
  by_cases h : i = 10
  · subst h
    simp
  · simp [h]
theorem script_flags_fn2 (g : Nat) (c0 c1 : Bool) : script_flags_f g c0 c1 false 10 = none := by
  unfold script_flags_f
  simp
set_option maxHeartbeats 8000000 in
set_option maxRecDepth 100000 in
theorem script_flags_calls (g : Nat) (w : World) : Calls Tryz.prog 26 #[.pointer (some ⟨g, 0, none⟩)] w fun e w' => (∃ m es clk, e = .returned (.map (some m)) ∧ w'.heap[m]? = some (.map es clk) ∧ FM es (script_flags_f g true true true) ∧ w.heap.size ≤ m) ∧ Below w.heap.size w w' := by
  have hmm := @run_makeMap Tryz.prog
  go_enter Tryz.func26, Tryz.ntmps26
  go_wp2_with (fail)
  refine start_ (n := 18) (S := fun w' => True) (ds := []) #[false, false, false, false, false, false, false, false, false, false, false, false, false, false, false, false, false, false] (by kernel_rfl) rfl rfl trivial (fun hHeld => ?_)
  refine with_tabW script_flags.tab1 script_flags.bits1 (fun HT_ HW_ => ?_)
  have HB0 := Aside0.mk (below_drew (Below.refl w.heap.size w))
  obtain ⟨m, hm⟩ : ∃ m, w.heap.size = m := ⟨_, rfl⟩
  have hm1 : w.drew.heap.size = m := hm
  generalize hw1 : w.drew = w1 at HB0 hHeld hm1 ⊢
  refine inv_at [0, 1, 2, 3, 4, 5, 6, 7, 8, 9, 10, 11, 12, 13, 14, 15, 16, 17] (fun a0_ b a w' => a = putSel a0_ b [(0, 3, .map (some m)), (1, 4, .pointer (some ⟨g, 0, none⟩)), (2, 5, .pointer (some ⟨g, 0, none⟩)), (3, 6, .pointer (some ⟨g, 3, none⟩)), (4, 7, .pointer (some ⟨g, 3, none⟩)), (6, 8, .pointer (some ⟨g, 0, none⟩)), (7, 9, .pointer (some ⟨g, 0, none⟩)), (8, 10, .pointer (some ⟨g, 3, none⟩)), (9, 11, .pointer (some ⟨g, 4, none⟩)), (11, 12, .pointer (some ⟨g, 0, none⟩)), (12, 13, .pointer (some ⟨g, 0, none⟩)), (13, 14, .pointer (some ⟨g, 9, none⟩)), (14, 15, .pointer (some ⟨g, 13, none⟩)), (16, 16, .map (some m)), (17, 2, .map (some m))] ∧ (b 0 = false → w' = w1) ∧ (b 0 = true → ∃ es clk, w'.heap[m]? = some (.map es clk) ∧ FM es (script_flags_f g (b 5) (b 10) (b 15)) ∧ Below m w w')) HT_.out HW_.out (by kernel_rfl) (by kernel_rfl) ?_ ?_ ?_
  · exact ⟨by simp only [putSel, Bool.false_eq_true, if_false], fun _ => rfl, fun h_ => absurd h_ (by decide)⟩
  · skip
    refine steps_cons ?_ ?_
    · rintro b a w' ⟨ha, h0, h1⟩ hb_ hon hoff
      refine ⟨_, rfl, fun K hK => ?_⟩
      replace ha := Aside0.mk ha
      obtain rfl := h0 hb_
      refine value_ (w1 := w'.alloc (.map #[] 0)) (v := .map (some m)) (by rfl) rfl ?_ ?_
      · go_simp
        try rw [hm1]
        try rfl
      have o5 := hoff 5 (by kernel_rfl)
      have o10 := hoff 10 (by kernel_rfl)
      have o15 := hoff 15 (by kernel_rfl)
      refine hK.out _ _ ⟨(by rw [ha.out]; exact putSel_upk 0 hb_ rfl rfl rfl), fun h_ => absurd ((up_self b 0).symm.trans h_) (by decide), fun _ => ⟨#[], 0, by rw [← hm1]; exact heap_alloc_new _ _, ?_, by rw [← hm]; exact HB0.out.alloc (Nat.le_of_eq (hm.trans hm1.symm)) _⟩⟩
      rw [up_ne (show 5 ≠ 0 by decide), o5, up_ne (show 10 ≠ 0 by decide), o10, up_ne (show 15 ≠ 0 by decide), o15, script_flags_f0]
      exact FM_empty
    refine steps_cons ?_ ?_
    · rintro b a w' ⟨ha, h0, h1⟩ hb_ hon hoff
      refine ⟨_, rfl, fun K hK => ?_⟩
      have e0 : a.tmps[0]? = some (.pointer (some ⟨g, 0, none⟩)) := by rw [ha]; exact (putSel_off rfl).trans rfl
      replace ha := Aside0.mk ha
      refine value_ (w1 := w') (v := .pointer (some ⟨g, 0, none⟩)) (by rfl) rfl ?_ ?_
      · go_simp
        try rfl
      refine hK.out _ _ ⟨(by rw [ha.out]; exact putSel_upk 1 hb_ rfl rfl rfl), h0, h1⟩
    refine steps_cons ?_ ?_
    · rintro b a w' ⟨ha, h0, h1⟩ hb_ hon hoff
      refine ⟨_, rfl, fun K hK => ?_⟩
      have e4 : a.tmps[4]? = some (.pointer (some ⟨g, 0, none⟩)) := by rw [ha]; exact putSel_on (e := (1, 4, .pointer (some ⟨g, 0, none⟩))) 1 rfl rfl (hon 1 (by kernel_rfl)) rfl
      replace ha := Aside0.mk ha
      refine value_ (w1 := w') (v := .pointer (some ⟨g, 0, none⟩)) (by rfl) rfl ?_ ?_
      · go_simp
        try rfl
      refine hK.out _ _ ⟨(by rw [ha.out]; exact putSel_upk 2 hb_ rfl rfl rfl), h0, h1⟩
    refine steps_cons ?_ ?_
    · rintro b a w' ⟨ha, h0, h1⟩ hb_ hon hoff
      refine ⟨_, rfl, fun K hK => ?_⟩
      have e5 : a.tmps[5]? = some (.pointer (some ⟨g, 0, none⟩)) := by rw [ha]; exact putSel_on (e := (2, 5, .pointer (some ⟨g, 0, none⟩))) 2 rfl rfl (hon 2 (by kernel_rfl)) rfl
      replace ha := Aside0.mk ha
      refine value_ (w1 := w') (v := .pointer (some ⟨g, 3, none⟩)) (by rfl) rfl ?_ ?_
      · go_simp
        try rfl
      refine hK.out _ _ ⟨(by rw [ha.out]; exact putSel_upk 3 hb_ rfl rfl rfl), h0, h1⟩
    refine steps_cons ?_ ?_
    · rintro b a w' ⟨ha, h0, h1⟩ hb_ hon hoff
      refine ⟨_, rfl, fun K hK => ?_⟩
      have e6 : a.tmps[6]? = some (.pointer (some ⟨g, 3, none⟩)) := by rw [ha]; exact putSel_on (e := (3, 6, .pointer (some ⟨g, 3, none⟩))) 3 rfl rfl (hon 3 (by kernel_rfl)) rfl
      replace ha := Aside0.mk ha
      refine value_ (w1 := w') (v := .pointer (some ⟨g, 3, none⟩)) (by rfl) rfl ?_ ?_
      · go_simp
        try rfl
      refine hK.out _ _ ⟨(by rw [ha.out]; exact putSel_upk 4 hb_ rfl rfl rfl), h0, h1⟩
    refine steps_cons ?_ ?_
    · rintro b a w' ⟨ha, h0, h1⟩ hb_ hon hoff
      refine ⟨_, rfl, fun K hK => ?_⟩
      have e3 : a.tmps[3]? = some (.map (some m)) := by rw [ha]; exact putSel_on (e := (0, 3, .map (some m))) 0 rfl rfl (hon 0 (by kernel_rfl)) rfl
      have e7 : a.tmps[7]? = some (.pointer (some ⟨g, 3, none⟩)) := by rw [ha]; exact putSel_on (e := (4, 7, .pointer (some ⟨g, 3, none⟩))) 4 rfl rfl (hon 4 (by kernel_rfl)) rfl
      replace ha := Aside0.mk ha
      obtain ⟨es, clk, q1, q2, q3⟩ := h1 (hon 0 (by kernel_rfl))
      rw [hb_] at q2
      have u := map_put w' 73 78 m clk es 0 (.pointer (some ⟨g, 3, none⟩)) Tryz.underlying73 q1 (FM_none q2 0 (script_flags_fn0 g _ _))
      refine skip_ (w1 := mset w' m (.map (es.push { key := .int .i64 0, val := .pointer (some ⟨g, 3, none⟩), born := clk }) (clk + 1))) (by rfl) rfl ?_ ?_
      · go_simp
        try rw [u]
        try rfl
      refine hK.out _ _ ⟨(by rw [ha.out]; exact putSel_none (v := undef) rfl), fun h_ => absurd (hon 0 (by kernel_rfl)) (fun q => by rw [show b 0 = false from h_] at q; cases q), fun _ => ⟨_, _, mset_at q1, ?_, mset_below q3 (Nat.le_refl _)⟩⟩
      have q4 := FM_push q2 0 (.pointer (some ⟨g, 3, none⟩)) clk (script_flags_fn0 g _ _)
      rw [script_flags_fp0] at q4
      rw [up_self]
      exact q4
    refine steps_cons ?_ ?_
    · rintro b a w' ⟨ha, h0, h1⟩ hb_ hon hoff
      refine ⟨_, rfl, fun K hK => ?_⟩
      have e0 : a.tmps[0]? = some (.pointer (some ⟨g, 0, none⟩)) := by rw [ha]; exact (putSel_off rfl).trans rfl
      replace ha := Aside0.mk ha
      refine value_ (w1 := w') (v := .pointer (some ⟨g, 0, none⟩)) (by rfl) rfl ?_ ?_
      · go_simp
        try rfl
      refine hK.out _ _ ⟨(by rw [ha.out]; exact putSel_upk 5 hb_ rfl rfl rfl), h0, h1⟩
    refine steps_cons ?_ ?_
    · rintro b a w' ⟨ha, h0, h1⟩ hb_ hon hoff
      refine ⟨_, rfl, fun K hK => ?_⟩
      have e8 : a.tmps[8]? = some (.pointer (some ⟨g, 0, none⟩)) := by rw [ha]; exact putSel_on (e := (6, 8, .pointer (some ⟨g, 0, none⟩))) 5 rfl rfl (hon 6 (by kernel_rfl)) rfl
      replace ha := Aside0.mk ha
      refine value_ (w1 := w') (v := .pointer (some ⟨g, 0, none⟩)) (by rfl) rfl ?_ ?_
      · go_simp
        try rfl
      refine hK.out _ _ ⟨(by rw [ha.out]; exact putSel_upk 6 hb_ rfl rfl rfl), h0, h1⟩
    refine steps_cons ?_ ?_
    · rintro b a w' ⟨ha, h0, h1⟩ hb_ hon hoff
      refine ⟨_, rfl, fun K hK => ?_⟩
      have e9 : a.tmps[9]? = some (.pointer (some ⟨g, 0, none⟩)) := by rw [ha]; exact putSel_on (e := (7, 9, .pointer (some ⟨g, 0, none⟩))) 6 rfl rfl (hon 7 (by kernel_rfl)) rfl
      replace ha := Aside0.mk ha
      refine value_ (w1 := w') (v := .pointer (some ⟨g, 3, none⟩)) (by rfl) rfl ?_ ?_
      · go_simp
        try rfl
      refine hK.out _ _ ⟨(by rw [ha.out]; exact putSel_upk 7 hb_ rfl rfl rfl), h0, h1⟩
    refine steps_cons ?_ ?_
    · rintro b a w' ⟨ha, h0, h1⟩ hb_ hon hoff
      refine ⟨_, rfl, fun K hK => ?_⟩
      have e10 : a.tmps[10]? = some (.pointer (some ⟨g, 3, none⟩)) := by rw [ha]; exact putSel_on (e := (8, 10, .pointer (some ⟨g, 3, none⟩))) 7 rfl rfl (hon 8 (by kernel_rfl)) rfl
      replace ha := Aside0.mk ha
      refine value_ (w1 := w') (v := .pointer (some ⟨g, 4, none⟩)) (by rfl) rfl ?_ ?_
      · go_simp
        try rfl
      refine hK.out _ _ ⟨(by rw [ha.out]; exact putSel_upk 8 hb_ rfl rfl rfl), h0, h1⟩
    refine steps_cons ?_ ?_
    · rintro b a w' ⟨ha, h0, h1⟩ hb_ hon hoff
      refine ⟨_, rfl, fun K hK => ?_⟩
      have e3 : a.tmps[3]? = some (.map (some m)) := by rw [ha]; exact putSel_on (e := (0, 3, .map (some m))) 0 rfl rfl (hon 0 (by kernel_rfl)) rfl
      have e11 : a.tmps[11]? = some (.pointer (some ⟨g, 4, none⟩)) := by rw [ha]; exact putSel_on (e := (9, 11, .pointer (some ⟨g, 4, none⟩))) 8 rfl rfl (hon 9 (by kernel_rfl)) rfl
      replace ha := Aside0.mk ha
      obtain ⟨es, clk, q1, q2, q3⟩ := h1 (hon 0 (by kernel_rfl))
      rw [hb_] at q2
      have u := map_put w' 73 78 m clk es 1 (.pointer (some ⟨g, 4, none⟩)) Tryz.underlying73 q1 (FM_none q2 1 (script_flags_fn1 g _ _))
      refine skip_ (w1 := mset w' m (.map (es.push { key := .int .i64 1, val := .pointer (some ⟨g, 4, none⟩), born := clk }) (clk + 1))) (by rfl) rfl ?_ ?_
      · go_simp
        try rw [u]
        try rfl
      refine hK.out _ _ ⟨(by rw [ha.out]; exact putSel_none (v := undef) rfl), fun h_ => absurd (hon 0 (by kernel_rfl)) (fun q => by rw [show b 0 = false from h_] at q; cases q), fun _ => ⟨_, _, mset_at q1, ?_, mset_below q3 (Nat.le_refl _)⟩⟩
      have q4 := FM_push q2 1 (.pointer (some ⟨g, 4, none⟩)) clk (script_flags_fn1 g _ _)
      rw [script_flags_fp1] at q4
      rw [up_self]
      exact q4
    refine steps_cons ?_ ?_
    · rintro b a w' ⟨ha, h0, h1⟩ hb_ hon hoff
      refine ⟨_, rfl, fun K hK => ?_⟩
      have e0 : a.tmps[0]? = some (.pointer (some ⟨g, 0, none⟩)) := by rw [ha]; exact (putSel_off rfl).trans rfl
      replace ha := Aside0.mk ha
      refine value_ (w1 := w') (v := .pointer (some ⟨g, 0, none⟩)) (by rfl) rfl ?_ ?_
      · go_simp
        try rfl
      refine hK.out _ _ ⟨(by rw [ha.out]; exact putSel_upk 9 hb_ rfl rfl rfl), h0, h1⟩
    refine steps_cons ?_ ?_
    · rintro b a w' ⟨ha, h0, h1⟩ hb_ hon hoff
      refine ⟨_, rfl, fun K hK => ?_⟩
      have e12 : a.tmps[12]? = some (.pointer (some ⟨g, 0, none⟩)) := by rw [ha]; exact putSel_on (e := (11, 12, .pointer (some ⟨g, 0, none⟩))) 9 rfl rfl (hon 11 (by kernel_rfl)) rfl
      replace ha := Aside0.mk ha
      refine value_ (w1 := w') (v := .pointer (some ⟨g, 0, none⟩)) (by rfl) rfl ?_ ?_
      · go_simp
        try rfl
      refine hK.out _ _ ⟨(by rw [ha.out]; exact putSel_upk 10 hb_ rfl rfl rfl), h0, h1⟩
    refine steps_cons ?_ ?_
    · rintro b a w' ⟨ha, h0, h1⟩ hb_ hon hoff
      refine ⟨_, rfl, fun K hK => ?_⟩
      have e13 : a.tmps[13]? = some (.pointer (some ⟨g, 0, none⟩)) := by rw [ha]; exact putSel_on (e := (12, 13, .pointer (some ⟨g, 0, none⟩))) 10 rfl rfl (hon 12 (by kernel_rfl)) rfl
      replace ha := Aside0.mk ha
      refine value_ (w1 := w') (v := .pointer (some ⟨g, 9, none⟩)) (by rfl) rfl ?_ ?_
      · go_simp
        try rfl
      refine hK.out _ _ ⟨(by rw [ha.out]; exact putSel_upk 11 hb_ rfl rfl rfl), h0, h1⟩
    refine steps_cons ?_ ?_
    · rintro b a w' ⟨ha, h0, h1⟩ hb_ hon hoff
      refine ⟨_, rfl, fun K hK => ?_⟩
      have e14 : a.tmps[14]? = some (.pointer (some ⟨g, 9, none⟩)) := by rw [ha]; exact putSel_on (e := (13, 14, .pointer (some ⟨g, 9, none⟩))) 11 rfl rfl (hon 13 (by kernel_rfl)) rfl
      replace ha := Aside0.mk ha
      refine value_ (w1 := w') (v := .pointer (some ⟨g, 13, none⟩)) (by rfl) rfl ?_ ?_
      · go_simp
        try rfl
      refine hK.out _ _ ⟨(by rw [ha.out]; exact putSel_upk 12 hb_ rfl rfl rfl), h0, h1⟩
    refine steps_cons ?_ ?_
    · rintro b a w' ⟨ha, h0, h1⟩ hb_ hon hoff
      refine ⟨_, rfl, fun K hK => ?_⟩
      have e3 : a.tmps[3]? = some (.map (some m)) := by rw [ha]; exact putSel_on (e := (0, 3, .map (some m))) 0 rfl rfl (hon 0 (by kernel_rfl)) rfl
      have e15 : a.tmps[15]? = some (.pointer (some ⟨g, 13, none⟩)) := by rw [ha]; exact putSel_on (e := (14, 15, .pointer (some ⟨g, 13, none⟩))) 12 rfl rfl (hon 14 (by kernel_rfl)) rfl
      replace ha := Aside0.mk ha
      obtain ⟨es, clk, q1, q2, q3⟩ := h1 (hon 0 (by kernel_rfl))
      rw [hb_] at q2
      have u := map_put w' 73 78 m clk es 10 (.pointer (some ⟨g, 13, none⟩)) Tryz.underlying73 q1 (FM_none q2 10 (script_flags_fn2 g _ _))
      refine skip_ (w1 := mset w' m (.map (es.push { key := .int .i64 10, val := .pointer (some ⟨g, 13, none⟩), born := clk }) (clk + 1))) (by rfl) rfl ?_ ?_
      · go_simp
        try rw [u]
        try rfl
      refine hK.out _ _ ⟨(by rw [ha.out]; exact putSel_none (v := undef) rfl), fun h_ => absurd (hon 0 (by kernel_rfl)) (fun q => by rw [show b 0 = false from h_] at q; cases q), fun _ => ⟨_, _, mset_at q1, ?_, mset_below q3 (Nat.le_refl _)⟩⟩
      have q4 := FM_push q2 10 (.pointer (some ⟨g, 13, none⟩)) clk (script_flags_fn2 g _ _)
      rw [script_flags_fp2] at q4
      rw [up_self]
      exact q4
    refine steps_cons ?_ ?_
    · rintro b a w' ⟨ha, h0, h1⟩ hb_ hon hoff
      refine ⟨_, rfl, fun K hK => ?_⟩
      have e3 : a.tmps[3]? = some (.map (some m)) := by rw [ha]; exact putSel_on (e := (0, 3, .map (some m))) 0 rfl rfl (hon 0 (by kernel_rfl)) rfl
      replace ha := Aside0.mk ha
      refine value_ (w1 := w') (v := .map (some m)) (by rfl) rfl ?_ ?_
      · go_simp
        try rfl
      refine hK.out _ _ ⟨(by rw [ha.out]; exact putSel_upk 13 hb_ rfl rfl rfl), h0, h1⟩
    refine steps_cons ?_ ?_
    · rintro b a w' ⟨ha, h0, h1⟩ hb_ hon hoff
      refine ⟨_, rfl, fun K hK => ?_⟩
      have e16 : a.tmps[16]? = some (.map (some m)) := by rw [ha]; exact putSel_on (e := (16, 16, .map (some m))) 13 rfl rfl (hon 16 (by kernel_rfl)) rfl
      replace ha := Aside0.mk ha
      refine value_ (w1 := w') (v := .map (some m)) (by rfl) rfl ?_ ?_
      · go_simp
        try rfl
      refine hK.out _ _ ⟨(by rw [ha.out]; exact putSel_upk 14 hb_ rfl rfl rfl), h0, h1⟩
    exact steps_nil
  · rintro b a w' hall ⟨ha, h0, h1⟩
    have hb0_ := hall 0 (by kernel_rfl)
    have hb1_ := hall 1 (by kernel_rfl)
    have hb2_ := hall 2 (by kernel_rfl)
    have hb3_ := hall 3 (by kernel_rfl)
    have hb4_ := hall 4 (by kernel_rfl)
    have hb6_ := hall 6 (by kernel_rfl)
    have hb7_ := hall 7 (by kernel_rfl)
    have hb8_ := hall 8 (by kernel_rfl)
    have hb9_ := hall 9 (by kernel_rfl)
    have hb11_ := hall 11 (by kernel_rfl)
    have hb12_ := hall 12 (by kernel_rfl)
    have hb13_ := hall 13 (by kernel_rfl)
    have hb14_ := hall 14 (by kernel_rfl)
    have hb16_ := hall 16 (by kernel_rfl)
    have hb17_ := hall 17 (by kernel_rfl)
    have hb5_ := hall 5 (by kernel_rfl)
    have hb10_ := hall 10 (by kernel_rfl)
    have hb15_ := hall 15 (by kernel_rfl)
    obtain ⟨es, clk, q1, q2, q3⟩ := h1 hb0_
    rw [hb5_, hb10_, hb15_] at q2
    have Q1 := Aside0.mk q1
    have Q2 := Aside0.mk q2
    have Q3 := Aside0.mk q3
    subst ha
    simp only [putSel, hb0_, hb1_, hb2_, hb3_, hb4_, hb6_, hb7_, hb8_, hb9_, hb11_, hb12_, hb13_, hb14_, hb16_, hb17_, if_true, Act.put, List.setIfInBounds_toArray, List.set_cons_zero, List.set_cons_succ]
    clear hall h0 h1 q1 q2 q3 hb0_ hb1_ hb2_ hb3_ hb4_ hb6_ hb7_ hb8_ hb9_ hb11_ hb12_ hb13_ hb14_ hb16_ hb17_ hb5_ hb10_ hb15_
    go_wp2_with (fail)
    go_ret
    exact ⟨⟨m, es, clk, rfl, Q1.out, Q2.out, Nat.le_of_eq hm⟩, by rw [hm]; exact Q3.out⟩
def script_sizes.T1 : Bool × List (List Nat × List Nat) := (true, [([], []), ([], []), ([1], [1]), ([2], [2]), ([3], [3]), ([0, 4], [0, 4]), ([], []), ([6], [6]), ([7], [7]), ([8], [8]), ([0, 9], [0, 9]), ([], []), ([11], [11]), ([12], [12]), ([13], [13]), ([0, 14], [0, 14]), ([], []), ([16], [16]), ([17], [17]), ([18], [18]), ([0, 19], [0, 19]), ([], []), ([21], [21]), ([22], [22]), ([23], [23]), ([0, 24], [0, 24]), ([], []), ([26], [26]), ([27], [27]), ([28], [28]), ([0, 29], [0, 29]), ([], []), ([31], [31]), ([32], [32]), ([33], [33]), ([0, 34], [0, 34]), ([], []), ([36], [36]), ([37], [37]), ([38], [38]), ([0, 39], [0, 39]), ([0, 1, 2, 3, 4, 5, 6, 7, 8, 9, 10, 11, 12, 13, 14, 15, 16, 17, 18, 19, 20, 21, 22, 23, 24, 25, 26, 27, 28, 29, 30, 31, 32, 33, 34, 35, 36, 37, 38, 39, 40], [0]), ([41, 0, 1, 2, 3, 4, 5, 6, 7, 8, 9, 10, 11, 12, 13, 14, 15, 16, 17, 18, 19, 20, 21, 22, 23, 24, 25, 26, 27, 28, 29, 30, 31, 32, 33, 34, 35, 36, 37, 38, 39, 40, 41], [41])])
def script_sizes.B1 : List Nat := [0, 0, 2, 6, 14, 31, 0, 64, 192, 448, 961, 0, 2048, 6144, 14336, 30721, 0, 65536, 196608, 458752, 983041, 0, 2097152, 6291456, 14680064, 31457281, 0, 67108864, 201326592, 469762048, 1006632961, 0, 2147483648, 6442450944, 15032385536, 32212254721, 0, 68719476736, 206158430208, 481036337152, 1030792151041, 2199023255551, 4398046511103]
theorem script_sizes.tab1 : rtab .any (opsOf Tryz.f27 1) = script_sizes.T1 := by kernel_rfl
theorem script_sizes.bits1 : waitsOk script_sizes.T1.2 script_sizes.B1 = true := by kernel_rfl
def script_sizes_f (g : Nat) (c0 c1 c2 c3 c4 c5 c6 c7 : Bool) : Int → Option Value := fun k => if k = 2 then (if c0 = true then some (.pointer (some ⟨g, 5, none⟩)) else none) else if k = 3 then (if c1 = true then some (.pointer (some ⟨g, 6, none⟩)) else none) else if k = 4 then (if c2 = true then some (.pointer (some ⟨g, 7, none⟩)) else none) else if k = 5 then (if c3 = true then some (.pointer (some ⟨g, 8, none⟩)) else none) else if k = 6 then (if c4 = true then some (.pointer (some ⟨g, 9, none⟩)) else none) else if k = 7 then (if c5 = true then some (.pointer (some ⟨g, 10, none⟩)) else none) else if k = 8 then (if c6 = true then some (.pointer (some ⟨g, 11, none⟩)) else none) else if k = 9 then (if c7 = true then some (.pointer (some ⟨g, 12, none⟩)) else none) else none
theorem script_sizes_f0 (g : Nat) : script_sizes_f g false false false false false false false false = fun _ => none := by
  funext k
  unfold script_sizes_f
  repeat' split
  all_goals first | rfl | contradiction
theorem script_sizes_fp0 (g : Nat) (c1 c2 c3 c4 c5 c6 c7 : Bool) : (fun i => if i = 2 then some (.pointer (some ⟨g, 5, none⟩)) else script_sizes_f g false c1 c2 c3 c4 c5 c6 c7 i) = script_sizes_f g true c1 c2 c3 c4 c5 c6 c7 := by
  funext i
  unfold script_sizes_f
  by_cases h : i = 2
  · subst h
    simp
  · simp [h]
theorem script_sizes_fn0 (g : Nat) (c1 c2 c3 c4 c5 c6 c7 : Bool) : script_sizes_f g false c1 c2 c3 c4 c5 c6 c7 2 = none := by
  unfold script_sizes_f
  simp
theorem script_sizes_fp1 (g : Nat) (c0 c2 c3 c4 c5 c6 c7 : Bool) : (fun i => if i = 3 then some (.pointer (some ⟨g, 6, none⟩)) else script_sizes_f g c0 false c2 c3 c4 c5 c6 c7 i) = script_sizes_f g c0 true c2 c3 c4 c5 c6 c7 := by
  funext i
  unfold script_sizes_f
  by_cases h : i = 3
  · subst h
    simp
  · simp [h]
theorem script_sizes_fn1 (g : Nat) (c0 c2 c3 c4 c5 c6 c7 : Bool) : script_sizes_f g c0 false c2 c3 c4 c5 c6 c7 3 = none := by
  unfold script_sizes_f
  simp
theorem script_sizes_fp2 (g : Nat) (c0 c1 c3 c4 c5 c6 c7 : Bool) : (fun i => if i = 4 then some (.pointer (some ⟨g, 7, none⟩)) else script_sizes_f g c0 c1 false c3 c4 c5 c6 c7 i) = script_sizes_f g c0 c1 true c3 c4 c5 c6 c7 := by
  funext i
  unfold script_sizes_f
  by_cases h : i = 4
  · subst h
    simp
  · simp [h]
theorem script_sizes_fn2 (g : Nat) (c0 c1 c3 c4 c5 c6 c7 : Bool) : script_sizes_f g c0 c1 false c3 c4 c5 c6 c7 4 = none := by
  unfold script_sizes_f
  simp
theorem script_sizes_fp3 (g : Nat) (c0 c1 c2 c4 c5 c6 c7 : Bool) : (fun i => if i = 5 then some (.pointer (some ⟨g, 8, none⟩)) else script_sizes_f g c0 c1 c2 false c4 c5 c6 c7 i) = script_sizes_f g c0 c1 c2 true c4 c5 c6 c7 := by
  funext i
  unfold script_sizes_f
  by_cases h : i = 5
  · subst h
    simp
  · simp [h]
theorem script_sizes_fn3 (g : Nat) (c0 c1 c2 c4 c5 c6 c7 : Bool) : script_sizes_f g c0 c1 c2 false c4 c5 c6 c7 5 = none := by
  unfold script_sizes_f
  simp
theorem script_sizes_fp4 (g : Nat) (c0 c1 c2 c3 c5 c6 c7 : Bool) : (fun i => if i = 6 then some (.pointer (some ⟨g, 9, none⟩)) else script_sizes_f g c0 c1 c2 c3 false c5 c6 c7 i) = script_sizes_f g c0 c1 c2 c3 true c5 c6 c7 := by
  funext i
  unfold script_sizes_f
  by_cases h : i = 6
  · subst h
    simp
  · simp [h]
theorem script_sizes_fn4 (g : Nat) (c0 c1 c2 c3 c5 c6 c7 : Bool) : script_sizes_f g c0 c1 c2 c3 false c5 c6 c7 6 = none := by
  unfold script_sizes_f
  simp
theorem script_sizes_fp5 (g : Nat) (c0 c1 c2 c3 c4 c6 c7 : Bool) : (fun i => if i = 7 then some (.pointer (some ⟨g, 10, none⟩)) else script_sizes_f g c0 c1 c2 c3 c4 false c6 c7 i) = script_sizes_f g c0 c1 c2 c3 c4 true c6 c7 := by
  funext i
  unfold script_sizes_f
  by_cases h : i = 7
  · subst h
    simp
  · simp [h]
theorem script_sizes_fn5 (g : Nat) (c0 c1 c2 c3 c4 c6 c7 : Bool) : script_sizes_f g c0 c1 c2 c3 c4 false c6 c7 7 = none := by
  unfold script_sizes_f
  simp
theorem script_sizes_fp6 (g : Nat) (c0 c1 c2 c3 c4 c5 c7 : Bool) : (fun i => if i = 8 then some (.pointer (some ⟨g, 11, none⟩)) else script_sizes_f g c0 c1 c2 c3 c4 c5 false c7 i) = script_sizes_f g c0 c1 c2 c3 c4 c5 true c7 := by
  funext i
  unfold script_sizes_f
  by_cases h : i = 8
  · subst h
    simp
  · simp [h]
theorem script_sizes_fn6 (g : Nat) (c0 c1 c2 c3 c4 c5 c7 : Bool) : script_sizes_f g c0 c1 c2 c3 c4 c5 false c7 8 = none := by
  unfold script_sizes_f
  simp
theorem script_sizes_fp7 (g : Nat) (c0 c1 c2 c3 c4 c5 c6 : Bool) : (fun i => if i = 9 then some (.pointer (some ⟨g, 12, none⟩)) else script_sizes_f g c0 c1 c2 c3 c4 c5 c6 false i) = script_sizes_f g c0 c1 c2 c3 c4 c5 c6 true := by
  funext i
  unfold script_sizes_f
  by_cases h : i = 9
  · subst h
    simp
  · simp [h]
theorem script_sizes_fn7 (g : Nat) (c0 c1 c2 c3 c4 c5 c6 : Bool) : script_sizes_f g c0 c1 c2 c3 c4 c5 c6 false 9 = none := by
  unfold script_sizes_f
  simp
set_option maxHeartbeats 8000000 in
set_option maxRecDepth 100000 in
theorem script_sizes_calls (g : Nat) (w : World) : Calls Tryz.prog 27 #[.pointer (some ⟨g, 0, none⟩)] w fun e w' => (∃ m es clk, e = .returned (.map (some m)) ∧ w'.heap[m]? = some (.map es clk) ∧ FM es (script_sizes_f g true true true true true true true true) ∧ w.heap.size ≤ m) ∧ Below w.heap.size w w' := by
  have hmm := @run_makeMap Tryz.prog
  go_enter Tryz.func27, Tryz.ntmps27
  go_wp2_with (fail)
  refine start_ (n := 43) (S := fun w' => True) (ds := []) #[false, false, false, false, false, false, false, false, false, false, false, false, false, false, false, false, false, false, false, false, false, false, false, false, false, false, false, false, false, false, false, false, false, false, false, false, false, false, false, false, false, false, false] (by kernel_rfl) rfl rfl trivial (fun hHeld => ?_)
  refine with_tabW script_sizes.tab1 script_sizes.bits1 (fun HT_ HW_ => ?_)
  have HB0 := Aside0.mk (below_drew (Below.refl w.heap.size w))
  obtain ⟨m, hm⟩ : ∃ m, w.heap.size = m := ⟨_, rfl⟩
  have hm1 : w.drew.heap.size = m := hm
  generalize hw1 : w.drew = w1 at HB0 hHeld hm1 ⊢
  refine inv_at [0, 1, 2, 3, 4, 5, 6, 7, 8, 9, 10, 11, 12, 13, 14, 15, 16, 17, 18, 19, 20, 21, 22, 23, 24, 25, 26, 27, 28, 29, 30, 31, 32, 33, 34, 35, 36, 37, 38, 39, 40, 41, 42] (fun a0_ b a w' => a = putSel a0_ b [(0, 3, .map (some m)), (1, 4, .pointer (some ⟨g, 0, none⟩)), (2, 5, .pointer (some ⟨g, 0, none⟩)), (3, 6, .pointer (some ⟨g, 3, none⟩)), (4, 7, .pointer (some ⟨g, 5, none⟩)), (6, 8, .pointer (some ⟨g, 0, none⟩)), (7, 9, .pointer (some ⟨g, 0, none⟩)), (8, 10, .pointer (some ⟨g, 3, none⟩)), (9, 11, .pointer (some ⟨g, 6, none⟩)), (11, 12, .pointer (some ⟨g, 0, none⟩)), (12, 13, .pointer (some ⟨g, 0, none⟩)), (13, 14, .pointer (some ⟨g, 3, none⟩)), (14, 15, .pointer (some ⟨g, 7, none⟩)), (16, 16, .pointer (some ⟨g, 0, none⟩)), (17, 17, .pointer (some ⟨g, 0, none⟩)), (18, 18, .pointer (some ⟨g, 3, none⟩)), (19, 19, .pointer (some ⟨g, 8, none⟩)), (21, 20, .pointer (some ⟨g, 0, none⟩)), (22, 21, .pointer (some ⟨g, 0, none⟩)), (23, 22, .pointer (some ⟨g, 9, none⟩)), (24, 23, .pointer (some ⟨g, 9, none⟩)), (26, 24, .pointer (some ⟨g, 0, none⟩)), (27, 25, .pointer (some ⟨g, 0, none⟩)), (28, 26, .pointer (some ⟨g, 9, none⟩)), (29, 27, .pointer (some ⟨g, 10, none⟩)), (31, 28, .pointer (some ⟨g, 0, none⟩)), (32, 29, .pointer (some ⟨g, 0, none⟩)), (33, 30, .pointer (some ⟨g, 9, none⟩)), (34, 31, .pointer (some ⟨g, 11, none⟩)), (36, 32, .pointer (some ⟨g, 0, none⟩)), (37, 33, .pointer (some ⟨g, 0, none⟩)), (38, 34, .pointer (some ⟨g, 9, none⟩)), (39, 35, .pointer (some ⟨g, 12, none⟩)), (41, 36, .map (some m)), (42, 2, .map (some m))] ∧ (b 0 = false → w' = w1) ∧ (b 0 = true → ∃ es clk, w'.heap[m]? = some (.map es clk) ∧ FM es (script_sizes_f g (b 5) (b 10) (b 15) (b 20) (b 25) (b 30) (b 35) (b 40)) ∧ Below m w w')) HT_.out HW_.out (by kernel_rfl) (by kernel_rfl) ?_ ?_ ?_
  · exact ⟨by simp only [putSel, Bool.false_eq_true, if_false], fun _ => rfl, fun h_ => absurd h_ (by decide)⟩
  · skip
    refine steps_cons ?_ ?_
    · rintro b a w' ⟨ha, h0, h1⟩ hb_ hon hoff
      refine ⟨_, rfl, fun K hK => ?_⟩
      replace ha := Aside0.mk ha
      obtain rfl := h0 hb_
      refine value_ (w1 := w'.alloc (.map #[] 0)) (v := .map (some m)) (by rfl) rfl ?_ ?_
      · go_simp
        try rw [hm1]
        try rfl
      have o5 := hoff 5 (by kernel_rfl)
      have o10 := hoff 10 (by kernel_rfl)
      have o15 := hoff 15 (by kernel_rfl)
      have o20 := hoff 20 (by kernel_rfl)
      have o25 := hoff 25 (by kernel_rfl)
      have o30 := hoff 30 (by kernel_rfl)
      have o35 := hoff 35 (by kernel_rfl)
      have o40 := hoff 40 (by kernel_rfl)
      refine hK.out _ _ ⟨(by rw [ha.out]; exact putSel_upk 0 hb_ rfl rfl rfl), fun h_ => absurd ((up_self b 0).symm.trans h_) (by decide), fun _ => ⟨#[], 0, by rw [← hm1]; exact heap_alloc_new _ _, ?_, by rw [← hm]; exact HB0.out.alloc (Nat.le_of_eq (hm.trans hm1.symm)) _⟩⟩
      rw [up_ne (show 5 ≠ 0 by decide), o5, up_ne (show 10 ≠ 0 by decide), o10, up_ne (show 15 ≠ 0 by decide), o15, up_ne (show 20 ≠ 0 by decide), o20, up_ne (show 25 ≠ 0 by decide), o25, up_ne (show 30 ≠ 0 by decide), o30, up_ne (show 35 ≠ 0 by decide), o35, up_ne (show 40 ≠ 0 by decide), o40, script_sizes_f0]
      exact FM_empty
    refine steps_cons ?_ ?_
    · rintro b a w' ⟨ha, h0, h1⟩ hb_ hon hoff
      refine ⟨_, rfl, fun K hK => ?_⟩
      have e0 : a.tmps[0]? = some (.pointer (some ⟨g, 0, none⟩)) := by rw [ha]; exact (putSel_off rfl).trans rfl
      replace ha := Aside0.mk ha
      refine value_ (w1 := w') (v := .pointer (some ⟨g, 0, none⟩)) (by rfl) rfl ?_ ?_
      · go_simp
        try rfl
      refine hK.out _ _ ⟨(by rw [ha.out]; exact putSel_upk 1 hb_ rfl rfl rfl), h0, h1⟩
    refine steps_cons ?_ ?_
    · rintro b a w' ⟨ha, h0, h1⟩ hb_ hon hoff
      refine ⟨_, rfl, fun K hK => ?_⟩
      have e4 : a.tmps[4]? = some (.pointer (some ⟨g, 0, none⟩)) := by rw [ha]; exact putSel_on (e := (1, 4, .pointer (some ⟨g, 0, none⟩))) 1 rfl rfl (hon 1 (by kernel_rfl)) rfl
      replace ha := Aside0.mk ha
      refine value_ (w1 := w') (v := .pointer (some ⟨g, 0, none⟩)) (by rfl) rfl ?_ ?_
      · go_simp
        try rfl
      refine hK.out _ _ ⟨(by rw [ha.out]; exact putSel_upk 2 hb_ rfl rfl rfl), h0, h1⟩
    refine steps_cons ?_ ?_
    · rintro b a w' ⟨ha, h0, h1⟩ hb_ hon hoff
      refine ⟨_, rfl, fun K hK => ?_⟩
      have e5 : a.tmps[5]? = some (.pointer (some ⟨g, 0, none⟩)) := by rw [ha]; exact putSel_on (e := (2, 5, .pointer (some ⟨g, 0, none⟩))) 2 rfl rfl (hon 2 (by kernel_rfl)) rfl
      replace ha := Aside0.mk ha
      refine value_ (w1 := w') (v := .pointer (some ⟨g, 3, none⟩)) (by rfl) rfl ?_ ?_
      · go_simp
        try rfl
      refine hK.out _ _ ⟨(by rw [ha.out]; exact putSel_upk 3 hb_ rfl rfl rfl), h0, h1⟩
    refine steps_cons ?_ ?_
    · rintro b a w' ⟨ha, h0, h1⟩ hb_ hon hoff
      refine ⟨_, rfl, fun K hK => ?_⟩
      have e6 : a.tmps[6]? = some (.pointer (some ⟨g, 3, none⟩)) := by rw [ha]; exact putSel_on (e := (3, 6, .pointer (some ⟨g, 3, none⟩))) 3 rfl rfl (hon 3 (by kernel_rfl)) rfl
      replace ha := Aside0.mk ha
      refine value_ (w1 := w') (v := .pointer (some ⟨g, 5, none⟩)) (by rfl) rfl ?_ ?_
      · go_simp
        try rfl
      refine hK.out _ _ ⟨(by rw [ha.out]; exact putSel_upk 4 hb_ rfl rfl rfl), h0, h1⟩
    refine steps_cons ?_ ?_
    · rintro b a w' ⟨ha, h0, h1⟩ hb_ hon hoff
      refine ⟨_, rfl, fun K hK => ?_⟩
      have e3 : a.tmps[3]? = some (.map (some m)) := by rw [ha]; exact putSel_on (e := (0, 3, .map (some m))) 0 rfl rfl (hon 0 (by kernel_rfl)) rfl
      have e7 : a.tmps[7]? = some (.pointer (some ⟨g, 5, none⟩)) := by rw [ha]; exact putSel_on (e := (4, 7, .pointer (some ⟨g, 5, none⟩))) 4 rfl rfl (hon 4 (by kernel_rfl)) rfl
      replace ha := Aside0.mk ha
      obtain ⟨es, clk, q1, q2, q3⟩ := h1 (hon 0 (by kernel_rfl))
      rw [hb_] at q2
      have u := map_put w' 76 81 m clk es 2 (.pointer (some ⟨g, 5, none⟩)) Tryz.underlying76 q1 (FM_none q2 2 (script_sizes_fn0 g _ _ _ _ _ _ _))
      refine skip_ (w1 := mset w' m (.map (es.push { key := .int .i64 2, val := .pointer (some ⟨g, 5, none⟩), born := clk }) (clk + 1))) (by rfl) rfl ?_ ?_
      · go_simp
        try rw [u]
        try rfl
      refine hK.out _ _ ⟨(by rw [ha.out]; exact putSel_none (v := undef) rfl), fun h_ => absurd (hon 0 (by kernel_rfl)) (fun q => by rw [show b 0 = false from h_] at q; cases q), fun _ => ⟨_, _, mset_at q1, ?_, mset_below q3 (Nat.le_refl _)⟩⟩
      have q4 := FM_push q2 2 (.pointer (some ⟨g, 5, none⟩)) clk (script_sizes_fn0 g _ _ _ _ _ _ _)
      rw [script_sizes_fp0] at q4
      rw [up_self]
      exact q4
    refine steps_cons ?_ ?_
    · rintro b a w' ⟨ha, h0, h1⟩ hb_ hon hoff
      refine ⟨_, rfl, fun K hK => ?_⟩
      have e0 : a.tmps[0]? = some (.pointer (some ⟨g, 0, none⟩)) := by rw [ha]; exact (putSel_off rfl).trans rfl
      replace ha := Aside0.mk ha
      refine value_ (w1 := w') (v := .pointer (some ⟨g, 0, none⟩)) (by rfl) rfl ?_ ?_
      · go_simp
        try rfl
      refine hK.out _ _ ⟨(by rw [ha.out]; exact putSel_upk 5 hb_ rfl rfl rfl), h0, h1⟩
    refine steps_cons ?_ ?_
    · rintro b a w' ⟨ha, h0, h1⟩ hb_ hon hoff
      refine ⟨_, rfl, fun K hK => ?_⟩
      have e8 : a.tmps[8]? = some (.pointer (some ⟨g, 0, none⟩)) := by rw [ha]; exact putSel_on (e := (6, 8, .pointer (some ⟨g, 0, none⟩))) 5 rfl rfl (hon 6 (by kernel_rfl)) rfl
      replace ha := Aside0.mk ha
      refine value_ (w1 := w') (v := .pointer (some ⟨g, 0, none⟩)) (by rfl) rfl ?_ ?_
      · go_simp
        try rfl
      refine hK.out _ _ ⟨(by rw [ha.out]; exact putSel_upk 6 hb_ rfl rfl rfl), h0, h1⟩
    refine steps_cons ?_ ?_
    · rintro b a w' ⟨ha, h0, h1⟩ hb_ hon hoff
      refine ⟨_, rfl, fun K hK => ?_⟩
      have e9 : a.tmps[9]? = some (.pointer (some ⟨g, 0, none⟩)) := by rw [ha]; exact putSel_on (e := (7, 9, .pointer (some ⟨g, 0, none⟩))) 6 rfl rfl (hon 7 (by kernel_rfl)) rfl
      replace ha := Aside0.mk ha
      refine value_ (w1 := w') (v := .pointer (some ⟨g, 3, none⟩)) (by rfl) rfl ?_ ?_
      · go_simp
        try rfl
      refine hK.out _ _ ⟨(by rw [ha.out]; exact putSel_upk 7 hb_ rfl rfl rfl), h0, h1⟩
    refine steps_cons ?_ ?_
    · rintro b a w' ⟨ha, h0, h1⟩ hb_ hon hoff
      refine ⟨_, rfl, fun K hK => ?_⟩
      have e10 : a.tmps[10]? = some (.pointer (some ⟨g, 3, none⟩)) := by rw [ha]; exact putSel_on (e := (8, 10, .pointer (some ⟨g, 3, none⟩))) 7 rfl rfl (hon 8 (by kernel_rfl)) rfl
      replace ha := Aside0.mk ha
      refine value_ (w1 := w') (v := .pointer (some ⟨g, 6, none⟩)) (by rfl) rfl ?_ ?_
      · go_simp
        try rfl
      refine hK.out _ _ ⟨(by rw [ha.out]; exact putSel_upk 8 hb_ rfl rfl rfl), h0, h1⟩
    refine steps_cons ?_ ?_
    · rintro b a w' ⟨ha, h0, h1⟩ hb_ hon hoff
      refine ⟨_, rfl, fun K hK => ?_⟩
      have e3 : a.tmps[3]? = some (.map (some m)) := by rw [ha]; exact putSel_on (e := (0, 3, .map (some m))) 0 rfl rfl (hon 0 (by kernel_rfl)) rfl
      have e11 : a.tmps[11]? = some (.pointer (some ⟨g, 6, none⟩)) := by rw [ha]; exact putSel_on (e := (9, 11, .pointer (some ⟨g, 6, none⟩))) 8 rfl rfl (hon 9 (by kernel_rfl)) rfl
      replace ha := Aside0.mk ha
      obtain ⟨es, clk, q1, q2, q3⟩ := h1 (hon 0 (by kernel_rfl))
      rw [hb_] at q2
      have u := map_put w' 76 81 m clk es 3 (.pointer (some ⟨g, 6, none⟩)) Tryz.underlying76 q1 (FM_none q2 3 (script_sizes_fn1 g _ _ _ _ _ _ _))
      refine skip_ (w1 := mset w' m (.map (es.push { key := .int .i64 3, val := .pointer (some ⟨g, 6, none⟩), born := clk }) (clk + 1))) (by rfl) rfl ?_ ?_
      · go_simp
        try rw [u]
        try rfl
      refine hK.out _ _ ⟨(by rw [ha.out]; exact putSel_none (v := undef) rfl), fun h_ => absurd (hon 0 (by kernel_rfl)) (fun q => by rw [show b 0 = false from h_] at q; cases q), fun _ => ⟨_, _, mset_at q1, ?_, mset_below q3 (Nat.le_refl _)⟩⟩
      have q4 := FM_push q2 3 (.pointer (some ⟨g, 6, none⟩)) clk (script_sizes_fn1 g _ _ _ _ _ _ _)
      rw [script_sizes_fp1] at q4
      rw [up_self]
      exact q4
    refine steps_cons ?_ ?_
    · rintro b a w' ⟨ha, h0, h1⟩ hb_ hon hoff
      refine ⟨_, rfl, fun K hK => ?_⟩
      have e0 : a.tmps[0]? = some (.pointer (some ⟨g, 0, none⟩)) := by rw [ha]; exact (putSel_off rfl).trans rfl
      replace ha := Aside0.mk ha
      refine value_ (w1 := w') (v := .pointer (some ⟨g, 0, none⟩)) (by rfl) rfl ?_ ?_
      · go_simp
        try rfl
      refine hK.out _ _ ⟨(by rw [ha.out]; exact putSel_upk 9 hb_ rfl rfl rfl), h0, h1⟩
    refine steps_cons ?_ ?_
    · rintro b a w' ⟨ha, h0, h1⟩ hb_ hon hoff
      refine ⟨_, rfl, fun K hK => ?_⟩
      have e12 : a.tmps[12]? = some (.pointer (some ⟨g, 0, none⟩)) := by rw [ha]; exact putSel_on (e := (11, 12, .pointer (some ⟨g, 0, none⟩))) 9 rfl rfl (hon 11 (by kernel_rfl)) rfl
      replace ha := Aside0.mk ha
      refine value_ (w1 := w') (v := .pointer (some ⟨g, 0, none⟩)) (by rfl) rfl ?_ ?_
      · go_simp
        try rfl
      refine hK.out _ _ ⟨(by rw [ha.out]; exact putSel_upk 10 hb_ rfl rfl rfl), h0, h1⟩
    refine steps_cons ?_ ?_
    · rintro b a w' ⟨ha, h0, h1⟩ hb_ hon hoff
      refine ⟨_, rfl, fun K hK => ?_⟩
      have e13 : a.tmps[13]? = some (.pointer (some ⟨g, 0, none⟩)) := by rw [ha]; exact putSel_on (e := (12, 13, .pointer (some ⟨g, 0, none⟩))) 10 rfl rfl (hon 12 (by kernel_rfl)) rfl
      replace ha := Aside0.mk ha
      refine value_ (w1 := w') (v := .pointer (some ⟨g, 3, none⟩)) (by rfl) rfl ?_ ?_
      · go_simp
        try rfl
      refine hK.out _ _ ⟨(by rw [ha.out]; exact putSel_upk 11 hb_ rfl rfl rfl), h0, h1⟩
    refine steps_cons ?_ ?_
    · rintro b a w' ⟨ha, h0, h1⟩ hb_ hon hoff
      refine ⟨_, rfl, fun K hK => ?_⟩
      have e14 : a.tmps[14]? = some (.pointer (some ⟨g, 3, none⟩)) := by rw [ha]; exact putSel_on (e := (13, 14, .pointer (some ⟨g, 3, none⟩))) 11 rfl rfl (hon 13 (by kernel_rfl)) rfl
      replace ha := Aside0.mk ha
      refine value_ (w1 := w') (v := .pointer (some ⟨g, 7, none⟩)) (by rfl) rfl ?_ ?_
      · go_simp
        try rfl
      refine hK.out _ _ ⟨(by rw [ha.out]; exact putSel_upk 12 hb_ rfl rfl rfl), h0, h1⟩
    refine steps_cons ?_ ?_
    · rintro b a w' ⟨ha, h0, h1⟩ hb_ hon hoff
      refine ⟨_, rfl, fun K hK => ?_⟩
      have e3 : a.tmps[3]? = some (.map (some m)) := by rw [ha]; exact putSel_on (e := (0, 3, .map (some m))) 0 rfl rfl (hon 0 (by kernel_rfl)) rfl
      have e15 : a.tmps[15]? = some (.pointer (some ⟨g, 7, none⟩)) := by rw [ha]; exact putSel_on (e := (14, 15, .pointer (some ⟨g, 7, none⟩))) 12 rfl rfl (hon 14 (by kernel_rfl)) rfl
      replace ha := Aside0.mk ha
      obtain ⟨es, clk, q1, q2, q3⟩ := h1 (hon 0 (by kernel_rfl))
      rw [hb_] at q2
      have u := map_put w' 76 81 m clk es 4 (.pointer (some ⟨g, 7, none⟩)) Tryz.underlying76 q1 (FM_none q2 4 (script_sizes_fn2 g _ _ _ _ _ _ _))
      refine skip_ (w1 := mset w' m (.map (es.push { key := .int .i64 4, val := .pointer (some ⟨g, 7, none⟩), born := clk }) (clk + 1))) (by rfl) rfl ?_ ?_
      · go_simp
        try rw [u]
        try rfl
      refine hK.out _ _ ⟨(by rw [ha.out]; exact putSel_none (v := undef) rfl), fun h_ => absurd (hon 0 (by kernel_rfl)) (fun q => by rw [show b 0 = false from h_] at q; cases q), fun _ => ⟨_, _, mset_at q1, ?_, mset_below q3 (Nat.le_refl _)⟩⟩
      have q4 := FM_push q2 4 (.pointer (some ⟨g, 7, none⟩)) clk (script_sizes_fn2 g _ _ _ _ _ _ _)
      rw [script_sizes_fp2] at q4
      rw [up_self]
      exact q4
    refine steps_cons ?_ ?_
    · rintro b a w' ⟨ha, h0, h1⟩ hb_ hon hoff
      refine ⟨_, rfl, fun K hK => ?_⟩
      have e0 : a.tmps[0]? = some (.pointer (some ⟨g, 0, none⟩)) := by rw [ha]; exact (putSel_off rfl).trans rfl
      replace ha := Aside0.mk ha
      refine value_ (w1 := w') (v := .pointer (some ⟨g, 0, none⟩)) (by rfl) rfl ?_ ?_
      · go_simp
        try rfl
      refine hK.out _ _ ⟨(by rw [ha.out]; exact putSel_upk 13 hb_ rfl rfl rfl), h0, h1⟩
    refine steps_cons ?_ ?_
    · rintro b a w' ⟨ha, h0, h1⟩ hb_ hon hoff
      refine ⟨_, rfl, fun K hK => ?_⟩
      have e16 : a.tmps[16]? = some (.pointer (some ⟨g, 0, none⟩)) := by rw [ha]; exact putSel_on (e := (16, 16, .pointer (some ⟨g, 0, none⟩))) 13 rfl rfl (hon 16 (by kernel_rfl)) rfl
      replace ha := Aside0.mk ha
      refine value_ (w1 := w') (v := .pointer (some ⟨g, 0, none⟩)) (by rfl) rfl ?_ ?_
      · go_simp
        try rfl
      refine hK.out _ _ ⟨(by rw [ha.out]; exact putSel_upk 14 hb_ rfl rfl rfl), h0, h1⟩
    refine steps_cons ?_ ?_
    · rintro b a w' ⟨ha, h0, h1⟩ hb_ hon hoff
      refine ⟨_, rfl, fun K hK => ?_⟩
      have e17 : a.tmps[17]? = some (.pointer (some ⟨g, 0, none⟩)) := by rw [ha]; exact putSel_on (e := (17, 17, .pointer (some ⟨g, 0, none⟩))) 14 rfl rfl (hon 17 (by kernel_rfl)) rfl
      replace ha := Aside0.mk ha
      refine value_ (w1 := w') (v := .pointer (some ⟨g, 3, none⟩)) (by rfl) rfl ?_ ?_
      · go_simp
        try rfl
      refine hK.out _ _ ⟨(by rw [ha.out]; exact putSel_upk 15 hb_ rfl rfl rfl), h0, h1⟩
    refine steps_cons ?_ ?_
    · rintro b a w' ⟨ha, h0, h1⟩ hb_ hon hoff
      refine ⟨_, rfl, fun K hK => ?_⟩
      have e18 : a.tmps[18]? = some (.pointer (some ⟨g, 3, none⟩)) := by rw [ha]; exact putSel_on (e := (18, 18, .pointer (some ⟨g, 3, none⟩))) 15 rfl rfl (hon 18 (by kernel_rfl)) rfl
      replace ha := Aside0.mk ha
      refine value_ (w1 := w') (v := .pointer (some ⟨g, 8, none⟩)) (by rfl) rfl ?_ ?_
      · go_simp
        try rfl
      refine hK.out _ _ ⟨(by rw [ha.out]; exact putSel_upk 16 hb_ rfl rfl rfl), h0, h1⟩
    refine steps_cons ?_ ?_
    · rintro b a w' ⟨ha, h0, h1⟩ hb_ hon hoff
      refine ⟨_, rfl, fun K hK => ?_⟩
      have e3 : a.tmps[3]? = some (.map (some m)) := by rw [ha]; exact putSel_on (e := (0, 3, .map (some m))) 0 rfl rfl (hon 0 (by kernel_rfl)) rfl
      have e19 : a.tmps[19]? = some (.pointer (some ⟨g, 8, none⟩)) := by rw [ha]; exact putSel_on (e := (19, 19, .pointer (some ⟨g, 8, none⟩))) 16 rfl rfl (hon 19 (by kernel_rfl)) rfl
      replace ha := Aside0.mk ha
      obtain ⟨es, clk, q1, q2, q3⟩ := h1 (hon 0 (by kernel_rfl))
      rw [hb_] at q2
      have u := map_put w' 76 81 m clk es 5 (.pointer (some ⟨g, 8, none⟩)) Tryz.underlying76 q1 (FM_none q2 5 (script_sizes_fn3 g _ _ _ _ _ _ _))
      refine skip_ (w1 := mset w' m (.map (es.push { key := .int .i64 5, val := .pointer (some ⟨g, 8, none⟩), born := clk }) (clk + 1))) (by rfl) rfl ?_ ?_
      · go_simp
        try rw [u]
        try rfl
      refine hK.out _ _ ⟨(by rw [ha.out]; exact putSel_none (v := undef) rfl), fun h_ => absurd (hon 0 (by kernel_rfl)) (fun q => by rw [show b 0 = false from h_] at q; cases q), fun _ => ⟨_, _, mset_at q1, ?_, mset_below q3 (Nat.le_refl _)⟩⟩
      have q4 := FM_push q2 5 (.pointer (some ⟨g, 8, none⟩)) clk (script_sizes_fn3 g _ _ _ _ _ _ _)
      rw [script_sizes_fp3] at q4
      rw [up_self]
      exact q4
    refine steps_cons ?_ ?_
    · rintro b a w' ⟨ha, h0, h1⟩ hb_ hon hoff
      refine ⟨_, rfl, fun K hK => ?_⟩
      have e0 : a.tmps[0]? = some (.pointer (some ⟨g, 0, none⟩)) := by rw [ha]; exact (putSel_off rfl).trans rfl
      replace ha := Aside0.mk ha
      refine value_ (w1 := w') (v := .pointer (some ⟨g, 0, none⟩)) (by rfl) rfl ?_ ?_
      · go_simp
        try rfl
      refine hK.out _ _ ⟨(by rw [ha.out]; exact putSel_upk 17 hb_ rfl rfl rfl), h0, h1⟩
    refine steps_cons ?_ ?_
    · rintro b a w' ⟨ha, h0, h1⟩ hb_ hon hoff
      refine ⟨_, rfl, fun K hK => ?_⟩
      have e20 : a.tmps[20]? = some (.pointer (some ⟨g, 0, none⟩)) := by rw [ha]; exact putSel_on (e := (21, 20, .pointer (some ⟨g, 0, none⟩))) 17 rfl rfl (hon 21 (by kernel_rfl)) rfl
      replace ha := Aside0.mk ha
      refine value_ (w1 := w') (v := .pointer (some ⟨g, 0, none⟩)) (by rfl) rfl ?_ ?_
      · go_simp
        try rfl
      refine hK.out _ _ ⟨(by rw [ha.out]; exact putSel_upk 18 hb_ rfl rfl rfl), h0, h1⟩
    refine steps_cons ?_ ?_
    · rintro b a w' ⟨ha, h0, h1⟩ hb_ hon hoff
      refine ⟨_, rfl, fun K hK => ?_⟩
      have e21 : a.tmps[21]? = some (.pointer (some ⟨g, 0, none⟩)) := by rw [ha]; exact putSel_on (e := (22, 21, .pointer (some ⟨g, 0, none⟩))) 18 rfl rfl (hon 22 (by kernel_rfl)) rfl
      replace ha := Aside0.mk ha
      refine value_ (w1 := w') (v := .pointer (some ⟨g, 9, none⟩)) (by rfl) rfl ?_ ?_
      · go_simp
        try rfl
      refine hK.out _ _ ⟨(by rw [ha.out]; exact putSel_upk 19 hb_ rfl rfl rfl), h0, h1⟩
    refine steps_cons ?_ ?_
    · rintro b a w' ⟨ha, h0, h1⟩ hb_ hon hoff
      refine ⟨_, rfl, fun K hK => ?_⟩
      have e22 : a.tmps[22]? = some (.pointer (some ⟨g, 9, none⟩)) := by rw [ha]; exact putSel_on (e := (23, 22, .pointer (some ⟨g, 9, none⟩))) 19 rfl rfl (hon 23 (by kernel_rfl)) rfl
      replace ha := Aside0.mk ha
      refine value_ (w1 := w') (v := .pointer (some ⟨g, 9, none⟩)) (by rfl) rfl ?_ ?_
      · go_simp
        try rfl
      refine hK.out _ _ ⟨(by rw [ha.out]; exact putSel_upk 20 hb_ rfl rfl rfl), h0, h1⟩
    refine steps_cons ?_ ?_
    · rintro b a w' ⟨ha, h0, h1⟩ hb_ hon hoff
      refine ⟨_, rfl, fun K hK => ?_⟩
      have e3 : a.tmps[3]? = some (.map (some m)) := by rw [ha]; exact putSel_on (e := (0, 3, .map (some m))) 0 rfl rfl (hon 0 (by kernel_rfl)) rfl
      have e23 : a.tmps[23]? = some (.pointer (some ⟨g, 9, none⟩)) := by rw [ha]; exact putSel_on (e := (24, 23, .pointer (some ⟨g, 9, none⟩))) 20 rfl rfl (hon 24 (by kernel_rfl)) rfl
      replace ha := Aside0.mk ha
      obtain ⟨es, clk, q1, q2, q3⟩ := h1 (hon 0 (by kernel_rfl))
      rw [hb_] at q2
      have u := map_put w' 76 81 m clk es 6 (.pointer (some ⟨g, 9, none⟩)) Tryz.underlying76 q1 (FM_none q2 6 (script_sizes_fn4 g _ _ _ _ _ _ _))
      refine skip_ (w1 := mset w' m (.map (es.push { key := .int .i64 6, val := .pointer (some ⟨g, 9, none⟩), born := clk }) (clk + 1))) (by rfl) rfl ?_ ?_
      · go_simp
        try rw [u]
        try rfl
      refine hK.out _ _ ⟨(by rw [ha.out]; exact putSel_none (v := undef) rfl), fun h_ => absurd (hon 0 (by kernel_rfl)) (fun q => by rw [show b 0 = false from h_] at q; cases q), fun _ => ⟨_, _, mset_at q1, ?_, mset_below q3 (Nat.le_refl _)⟩⟩
      have q4 := FM_push q2 6 (.pointer (some ⟨g, 9, none⟩)) clk (script_sizes_fn4 g _ _ _ _ _ _ _)
      rw [script_sizes_fp4] at q4
      rw [up_self]
      exact q4
    refine steps_cons ?_ ?_
    · rintro b a w' ⟨ha, h0, h1⟩ hb_ hon hoff
      refine ⟨_, rfl, fun K hK => ?_⟩
      have e0 : a.tmps[0]? = some (.pointer (some ⟨g, 0, none⟩)) := by rw [ha]; exact (putSel_off rfl).trans rfl
      replace ha := Aside0.mk ha
      refine value_ (w1 := w') (v := .pointer (some ⟨g, 0, none⟩)) (by rfl) rfl ?_ ?_
      · go_simp
        try rfl
      refine hK.out _ _ ⟨(by rw [ha.out]; exact putSel_upk 21 hb_ rfl rfl rfl), h0, h1⟩
    refine steps_cons ?_ ?_
    · rintro b a w' ⟨ha, h0, h1⟩ hb_ hon hoff
      refine ⟨_, rfl, fun K hK => ?_⟩
      have e24 : a.tmps[24]? = some (.pointer (some ⟨g, 0, none⟩)) := by rw [ha]; exact putSel_on (e := (26, 24, .pointer (some ⟨g, 0, none⟩))) 21 rfl rfl (hon 26 (by kernel_rfl)) rfl
      replace ha := Aside0.mk ha
      refine value_ (w1 := w') (v := .pointer (some ⟨g, 0, none⟩)) (by rfl) rfl ?_ ?_
      · go_simp
        try rfl
      refine hK.out _ _ ⟨(by rw [ha.out]; exact putSel_upk 22 hb_ rfl rfl rfl), h0, h1⟩
    refine steps_cons ?_ ?_
    · rintro b a w' ⟨ha, h0, h1⟩ hb_ hon hoff
      refine ⟨_, rfl, fun K hK => ?_⟩
      have e25 : a.tmps[25]? = some (.pointer (some ⟨g, 0, none⟩)) := by rw [ha]; exact putSel_on (e := (27, 25, .pointer (some ⟨g, 0, none⟩))) 22 rfl rfl (hon 27 (by kernel_rfl)) rfl
      replace ha := Aside0.mk ha
      refine value_ (w1 := w') (v := .pointer (some ⟨g, 9, none⟩)) (by rfl) rfl ?_ ?_
      · go_simp
        try rfl
      refine hK.out _ _ ⟨(by rw [ha.out]; exact putSel_upk 23 hb_ rfl rfl rfl), h0, h1⟩
    refine steps_cons ?_ ?_
    · rintro b a w' ⟨ha, h0, h1⟩ hb_ hon hoff
      refine ⟨_, rfl, fun K hK => ?_⟩
      have e26 : a.tmps[26]? = some (.pointer (some ⟨g, 9, none⟩)) := by rw [ha]; exact putSel_on (e := (28, 26, .pointer (some ⟨g, 9, none⟩))) 23 rfl rfl (hon 28 (by kernel_rfl)) rfl
      replace ha := Aside0.mk ha
      refine value_ (w1 := w') (v := .pointer (some ⟨g, 10, none⟩)) (by rfl) rfl ?_ ?_
      · go_simp
        try rfl
      refine hK.out _ _ ⟨(by rw [ha.out]; exact putSel_upk 24 hb_ rfl rfl rfl), h0, h1⟩
    refine steps_cons ?_ ?_
    · rintro b a w' ⟨ha, h0, h1⟩ hb_ hon hoff
      refine ⟨_, rfl, fun K hK => ?_⟩
      have e3 : a.tmps[3]? = some (.map (some m)) := by rw [ha]; exact putSel_on (e := (0, 3, .map (some m))) 0 rfl rfl (hon 0 (by kernel_rfl)) rfl
      have e27 : a.tmps[27]? = some (.pointer (some ⟨g, 10, none⟩)) := by rw [ha]; exact putSel_on (e := (29, 27, .pointer (some ⟨g, 10, none⟩))) 24 rfl rfl (hon 29 (by kernel_rfl)) rfl
      replace ha := Aside0.mk ha
      obtain ⟨es, clk, q1, q2, q3⟩ := h1 (hon 0 (by kernel_rfl))
      rw [hb_] at q2
      have u := map_put w' 76 81 m clk es 7 (.pointer (some ⟨g, 10, none⟩)) Tryz.underlying76 q1 (FM_none q2 7 (script_sizes_fn5 g _ _ _ _ _ _ _))
      refine skip_ (w1 := mset w' m (.map (es.push { key := .int .i64 7, val := .pointer (some ⟨g, 10, none⟩), born := clk }) (clk + 1))) (by rfl) rfl ?_ ?_
      · go_simp
        try rw [u]
        try rfl
      refine hK.out _ _ ⟨(by rw [ha.out]; exact putSel_none (v := undef) rfl), fun h_ => absurd (hon 0 (by kernel_rfl)) (fun q => by rw [show b 0 = false from h_] at q; cases q), fun _ => ⟨_, _, mset_at q1, ?_, mset_below q3 (Nat.le_refl _)⟩⟩
      have q4 := FM_push q2 7 (.pointer (some ⟨g, 10, none⟩)) clk (script_sizes_fn5 g _ _ _ _ _ _ _)
      rw [script_sizes_fp5] at q4
      rw [up_self]
      exact q4
    refine steps_cons ?_ ?_
    · rintro b a w' ⟨ha, h0, h1⟩ hb_ hon hoff
      refine ⟨_, rfl, fun K hK => ?_⟩
      have e0 : a.tmps[0]? = some (.pointer (some ⟨g, 0, none⟩)) := by rw [ha]; exact (putSel_off rfl).trans rfl
      replace ha := Aside0.mk ha
      refine value_ (w1 := w') (v := .pointer (some ⟨g, 0, none⟩)) (by rfl) rfl ?_ ?_
      · go_simp
        try rfl
      refine hK.out _ _ ⟨(by rw [ha.out]; exact putSel_upk 25 hb_ rfl rfl rfl), h0, h1⟩
    refine steps_cons ?_ ?_
    · rintro b a w' ⟨ha, h0, h1⟩ hb_ hon hoff
      refine ⟨_, rfl, fun K hK => ?_⟩
      have e28 : a.tmps[28]? = some (.pointer (some ⟨g, 0, none⟩)) := by rw [ha]; exact putSel_on (e := (31, 28, .pointer (some ⟨g, 0, none⟩))) 25 rfl rfl (hon 31 (by kernel_rfl)) rfl
      replace ha := Aside0.mk ha
      refine value_ (w1 := w') (v := .pointer (some ⟨g, 0, none⟩)) (by rfl) rfl ?_ ?_
      · go_simp
        try rfl
      refine hK.out _ _ ⟨(by rw [ha.out]; exact putSel_upk 26 hb_ rfl rfl rfl), h0, h1⟩
    refine steps_cons ?_ ?_
    · rintro b a w' ⟨ha, h0, h1⟩ hb_ hon hoff
      refine ⟨_, rfl, fun K hK => ?_⟩
      have e29 : a.tmps[29]? = some (.pointer (some ⟨g, 0, none⟩)) := by rw [ha]; exact putSel_on (e := (32, 29, .pointer (some ⟨g, 0, none⟩))) 26 rfl rfl (hon 32 (by kernel_rfl)) rfl
      replace ha := Aside0.mk ha
      refine value_ (w1 := w') (v := .pointer (some ⟨g, 9, none⟩)) (by rfl) rfl ?_ ?_
      · go_simp
        try rfl
      refine hK.out _ _ ⟨(by rw [ha.out]; exact putSel_upk 27 hb_ rfl rfl rfl), h0, h1⟩
    refine steps_cons ?_ ?_
    · rintro b a w' ⟨ha, h0, h1⟩ hb_ hon hoff
      refine ⟨_, rfl, fun K hK => ?_⟩
      have e30 : a.tmps[30]? = some (.pointer (some ⟨g, 9, none⟩)) := by rw [ha]; exact putSel_on (e := (33, 30, .pointer (some ⟨g, 9, none⟩))) 27 rfl rfl (hon 33 (by kernel_rfl)) rfl
      replace ha := Aside0.mk ha
      refine value_ (w1 := w') (v := .pointer (some ⟨g, 11, none⟩)) (by rfl) rfl ?_ ?_
      · go_simp
        try rfl
      refine hK.out _ _ ⟨(by rw [ha.out]; exact putSel_upk 28 hb_ rfl rfl rfl), h0, h1⟩
    refine steps_cons ?_ ?_
    · rintro b a w' ⟨ha, h0, h1⟩ hb_ hon hoff
      refine ⟨_, rfl, fun K hK => ?_⟩
      have e3 : a.tmps[3]? = some (.map (some m)) := by rw [ha]; exact putSel_on (e := (0, 3, .map (some m))) 0 rfl rfl (hon 0 (by kernel_rfl)) rfl
      have e31 : a.tmps[31]? = some (.pointer (some ⟨g, 11, none⟩)) := by rw [ha]; exact putSel_on (e := (34, 31, .pointer (some ⟨g, 11, none⟩))) 28 rfl rfl (hon 34 (by kernel_rfl)) rfl
      replace ha := Aside0.mk ha
      obtain ⟨es, clk, q1, q2, q3⟩ := h1 (hon 0 (by kernel_rfl))
      rw [hb_] at q2
      have u := map_put w' 76 81 m clk es 8 (.pointer (some ⟨g, 11, none⟩)) Tryz.underlying76 q1 (FM_none q2 8 (script_sizes_fn6 g _ _ _ _ _ _ _))
      refine skip_ (w1 := mset w' m (.map (es.push { key := .int .i64 8, val := .pointer (some ⟨g, 11, none⟩), born := clk }) (clk + 1))) (by rfl) rfl ?_ ?_
      · go_simp
        try rw [u]
        try rfl
      refine hK.out _ _ ⟨(by rw [ha.out]; exact putSel_none (v := undef) rfl), fun h_ => absurd (hon 0 (by kernel_rfl)) (fun q => by rw [show b 0 = false from h_] at q; cases q), fun _ => ⟨_, _, mset_at q1, ?_, mset_below q3 (Nat.le_refl _)⟩⟩
      have q4 := FM_push q2 8 (.pointer (some ⟨g, 11, none⟩)) clk (script_sizes_fn6 g _ _ _ _ _ _ _)
      rw [script_sizes_fp6] at q4
      rw [up_self]
      exact q4
    refine steps_cons ?_ ?_
    · rintro b a w' ⟨ha, h0, h1⟩ hb_ hon hoff
      refine ⟨_, rfl, fun K hK => ?_⟩
      have e0 : a.tmps[0]? = some (.pointer (some ⟨g, 0, none⟩)) := by rw [ha]; exact (putSel_off rfl).trans rfl
      replace ha := Aside0.mk ha
      refine value_ (w1 := w') (v := .pointer (some ⟨g, 0, none⟩)) (by rfl) rfl ?_ ?_
      · go_simp
        try rfl
      refine hK.out _ _ ⟨(by rw [ha.out]; exact putSel_upk 29 hb_ rfl rfl rfl), h0, h1⟩
    refine steps_cons ?_ ?_
    · rintro b a w' ⟨ha, h0, h1⟩ hb_ hon hoff
      refine ⟨_, rfl, fun K hK => ?_⟩
      have e32 : a.tmps[32]? = some (.pointer (some ⟨g, 0, none⟩)) := by rw [ha]; exact putSel_on (e := (36, 32, .pointer (some ⟨g, 0, none⟩))) 29 rfl rfl (hon 36 (by kernel_rfl)) rfl
      replace ha := Aside0.mk ha
      refine value_ (w1 := w') (v := .pointer (some ⟨g, 0, none⟩)) (by rfl) rfl ?_ ?_
      · go_simp
        try rfl
      refine hK.out _ _ ⟨(by rw [ha.out]; exact putSel_upk 30 hb_ rfl rfl rfl), h0, h1⟩
    refine steps_cons ?_ ?_
    · rintro b a w' ⟨ha, h0, h1⟩ hb_ hon hoff
      refine ⟨_, rfl, fun K hK => ?_⟩
      have e33 : a.tmps[33]? = some (.pointer (some ⟨g, 0, none⟩)) := by rw [ha]; exact putSel_on (e := (37, 33, .pointer (some ⟨g, 0, none⟩))) 30 rfl rfl (hon 37 (by kernel_rfl)) rfl
      replace ha := Aside0.mk ha
      refine value_ (w1 := w') (v := .pointer (some ⟨g, 9, none⟩)) (by rfl) rfl ?_ ?_
      · go_simp
        try rfl
      refine hK.out _ _ ⟨(by rw [ha.out]; exact putSel_upk 31 hb_ rfl rfl rfl), h0, h1⟩
    refine steps_cons ?_ ?_
    · rintro b a w' ⟨ha, h0, h1⟩ hb_ hon hoff
      refine ⟨_, rfl, fun K hK => ?_⟩
      have e34 : a.tmps[34]? = some (.pointer (some ⟨g, 9, none⟩)) := by rw [ha]; exact putSel_on (e := (38, 34, .pointer (some ⟨g, 9, none⟩))) 31 rfl rfl (hon 38 (by kernel_rfl)) rfl
      replace ha := Aside0.mk ha
      refine value_ (w1 := w') (v := .pointer (some ⟨g, 12, none⟩)) (by rfl) rfl ?_ ?_
      · go_simp
        try rfl
      refine hK.out _ _ ⟨(by rw [ha.out]; exact putSel_upk 32 hb_ rfl rfl rfl), h0, h1⟩
    refine steps_cons ?_ ?_
    · rintro b a w' ⟨ha, h0, h1⟩ hb_ hon hoff
      refine ⟨_, rfl, fun K hK => ?_⟩
      have e3 : a.tmps[3]? = some (.map (some m)) := by rw [ha]; exact putSel_on (e := (0, 3, .map (some m))) 0 rfl rfl (hon 0 (by kernel_rfl)) rfl
      have e35 : a.tmps[35]? = some (.pointer (some ⟨g, 12, none⟩)) := by rw [ha]; exact putSel_on (e := (39, 35, .pointer (some ⟨g, 12, none⟩))) 32 rfl rfl (hon 39 (by kernel_rfl)) rfl
      replace ha := Aside0.mk ha
      obtain ⟨es, clk, q1, q2, q3⟩ := h1 (hon 0 (by kernel_rfl))
      rw [hb_] at q2
      have u := map_put w' 76 81 m clk es 9 (.pointer (some ⟨g, 12, none⟩)) Tryz.underlying76 q1 (FM_none q2 9 (script_sizes_fn7 g _ _ _ _ _ _ _))
      refine skip_ (w1 := mset w' m (.map (es.push { key := .int .i64 9, val := .pointer (some ⟨g, 12, none⟩), born := clk }) (clk + 1))) (by rfl) rfl ?_ ?_
      · go_simp
        try rw [u]
        try rfl
      refine hK.out _ _ ⟨(by rw [ha.out]; exact putSel_none (v := undef) rfl), fun h_ => absurd (hon 0 (by kernel_rfl)) (fun q => by rw [show b 0 = false from h_] at q; cases q), fun _ => ⟨_, _, mset_at q1, ?_, mset_below q3 (Nat.le_refl _)⟩⟩
      have q4 := FM_push q2 9 (.pointer (some ⟨g, 12, none⟩)) clk (script_sizes_fn7 g _ _ _ _ _ _ _)
      rw [script_sizes_fp7] at q4
      rw [up_self]
      exact q4
    refine steps_cons ?_ ?_
    · rintro b a w' ⟨ha, h0, h1⟩ hb_ hon hoff
      refine ⟨_, rfl, fun K hK => ?_⟩
      have e3 : a.tmps[3]? = some (.map (some m)) := by rw [ha]; exact putSel_on (e := (0, 3, .map (some m))) 0 rfl rfl (hon 0 (by kernel_rfl)) rfl
      replace ha := Aside0.mk ha
      refine value_ (w1 := w') (v := .map (some m)) (by rfl) rfl ?_ ?_
      · go_simp
        try rfl
      refine hK.out _ _ ⟨(by rw [ha.out]; exact putSel_upk 33 hb_ rfl rfl rfl), h0, h1⟩
    refine steps_cons ?_ ?_
    · rintro b a w' ⟨ha, h0, h1⟩ hb_ hon hoff
      refine ⟨_, rfl, fun K hK => ?_⟩
      have e36 : a.tmps[36]? = some (.map (some m)) := by rw [ha]; exact putSel_on (e := (41, 36, .map (some m))) 33 rfl rfl (hon 41 (by kernel_rfl)) rfl
      replace ha := Aside0.mk ha
      refine value_ (w1 := w') (v := .map (some m)) (by rfl) rfl ?_ ?_
      · go_simp
        try rfl
      refine hK.out _ _ ⟨(by rw [ha.out]; exact putSel_upk 34 hb_ rfl rfl rfl), h0, h1⟩
    exact steps_nil
  · rintro b a w' hall ⟨ha, h0, h1⟩
    have hb0_ := hall 0 (by kernel_rfl)
    have hb1_ := hall 1 (by kernel_rfl)
    have hb2_ := hall 2 (by kernel_rfl)
    have hb3_ := hall 3 (by kernel_rfl)
    have hb4_ := hall 4 (by kernel_rfl)
    have hb6_ := hall 6 (by kernel_rfl)
    have hb7_ := hall 7 (by kernel_rfl)
    have hb8_ := hall 8 (by kernel_rfl)
    have hb9_ := hall 9 (by kernel_rfl)
    have hb11_ := hall 11 (by kernel_rfl)
    have hb12_ := hall 12 (by kernel_rfl)
    have hb13_ := hall 13 (by kernel_rfl)
    have hb14_ := hall 14 (by kernel_rfl)
    have hb16_ := hall 16 (by kernel_rfl)
    have hb17_ := hall 17 (by kernel_rfl)
    have hb18_ := hall 18 (by kernel_rfl)
    have hb19_ := hall 19 (by kernel_rfl)
    have hb21_ := hall 21 (by kernel_rfl)
    have hb22_ := hall 22 (by kernel_rfl)
    have hb23_ := hall 23 (by kernel_rfl)
    have hb24_ := hall 24 (by kernel_rfl)
    have hb26_ := hall 26 (by kernel_rfl)
    have hb27_ := hall 27 (by kernel_rfl)
    have hb28_ := hall 28 (by kernel_rfl)
    have hb29_ := hall 29 (by kernel_rfl)
    have hb31_ := hall 31 (by kernel_rfl)
    have hb32_ := hall 32 (by kernel_rfl)
    have hb33_ := hall 33 (by kernel_rfl)
    have hb34_ := hall 34 (by kernel_rfl)
    have hb36_ := hall 36 (by kernel_rfl)
    have hb37_ := hall 37 (by kernel_rfl)
    have hb38_ := hall 38 (by kernel_rfl)
    have hb39_ := hall 39 (by kernel_rfl)
    have hb41_ := hall 41 (by kernel_rfl)
    have hb42_ := hall 42 (by kernel_rfl)
    have hb5_ := hall 5 (by kernel_rfl)
    have hb10_ := hall 10 (by kernel_rfl)
    have hb15_ := hall 15 (by kernel_rfl)
    have hb20_ := hall 20 (by kernel_rfl)
    have hb25_ := hall 25 (by kernel_rfl)
    have hb30_ := hall 30 (by kernel_rfl)
    have hb35_ := hall 35 (by kernel_rfl)
    have hb40_ := hall 40 (by kernel_rfl)
    obtain ⟨es, clk, q1, q2, q3⟩ := h1 hb0_
    rw [hb5_, hb10_, hb15_, hb20_, hb25_, hb30_, hb35_, hb40_] at q2
    have Q1 := Aside0.mk q1
    have Q2 := Aside0.mk q2
    have Q3 := Aside0.mk q3
    subst ha
    simp only [putSel, hb0_, hb1_, hb2_, hb3_, hb4_, hb6_, hb7_, hb8_, hb9_, hb11_, hb12_, hb13_, hb14_, hb16_, hb17_, hb18_, hb19_, hb21_, hb22_, hb23_, hb24_, hb26_, hb27_, hb28_, hb29_, hb31_, hb32_, hb33_, hb34_, hb36_, hb37_, hb38_, hb39_, hb41_, hb42_, if_true, Act.put, List.setIfInBounds_toArray, List.set_cons_zero, List.set_cons_succ]
    clear hall h0 h1 q1 q2 q3 hb0_ hb1_ hb2_ hb3_ hb4_ hb6_ hb7_ hb8_ hb9_ hb11_ hb12_ hb13_ hb14_ hb16_ hb17_ hb18_ hb19_ hb21_ hb22_ hb23_ hb24_ hb26_ hb27_ hb28_ hb29_ hb31_ hb32_ hb33_ hb34_ hb36_ hb37_ hb38_ hb39_ hb41_ hb42_ hb5_ hb10_ hb15_ hb20_ hb25_ hb30_ hb35_ hb40_
    go_wp2_with (fail)
    go_ret
    exact ⟨⟨m, es, clk, rfl, Q1.out, Q2.out, Nat.le_of_eq hm⟩, by rw [hm]; exact Q3.out⟩
end Go.Proofs.YtndgaeldndgioaaGreatDoor.QAll
end

section
/- script.Node, walked by hand: under way (node_err: where node.New fails). -/
set_option linter.unusedVariables false
set_option linter.unusedSimpArgs false
namespace Go.Proofs.YtndgaeldndgioaaGreatDoor.QAll
open Go.RowKit Go.Proofs.YtndgaeldndgioaaGreatDoorW.PrintWords Go.Proofs.YtndgaeldndgioaaGreatDoorW.PrintLast Go.Proofs.YtndgaeldndgioaaGreatDoorW.PrintMore
set_option maxHeartbeats 8000000 in
set_option maxRecDepth 100000 in
theorem snode_err (a0 : ByteArray) (a1 : Int) (A1 : Option Addr) (c1 : Nat) (l1 : List S37) (b0 b1 : Bool) (b2 b3 b4 b5 p0 p1 p2 p3 : Int) (p4 : Bool) (dr rb xr : Bool) (w : World)
    (hr : Kd.C k37 w A1 l1.length l1) (hc : l1.length ≤ c1) (hl : l1.length ≤ 900000) (hd : call_Distinct.f (⟨a0, a1⟩ :: l1) = some dr) (hrb : call_Right.f a0 a1 = some rb) (hx : xid_Right.f b0 b1 b2 b3 b4 b5 = some xr) (he : newE dr l1.length rb xr (tncB p0 p1 p2 p3) ≠ 0) :
    Calls Tryz.prog 10 #[.agg #[.string a0, .int .i64 a1, .slice A1 l1.length c1, .bool b0, .bool b1, .int .i64 b2, .int .i64 b3, .int .i64 b4, .int .i64 b5, .int .i64 p0, .int .i64 p1, .int .i64 p2, .int .i64 p3, .bool p4]] w fun e w' => e = .returned (.string ⟨#[]⟩) ∧ Below w.heap.size w w' := by
  have HE := Aside0.mk he
  have HQ := Aside0.mk (show CX w #[.string a0, .int .i64 a1, .slice A1 l1.length c1, .bool b0, .bool b1, .int .i64 b2, .int .i64 b3, .int .i64 b4, .int .i64 b5, .int .i64 p0, .int .i64 p1, .int .i64 p2, .int .i64 p3, .bool p4] A1 l1 (w.alloc (.cells #[.string a0, .int .i64 a1, .slice A1 l1.length c1, .bool b0, .bool b1, .int .i64 b2, .int .i64 b3, .int .i64 b4, .int .i64 b5, .int .i64 p0, .int .i64 p1, .int .i64 p2, .int .i64 p3, .bool p4] 44 (0, 0))) from ⟨(Below.refl _ _).alloc (Nat.le_refl _) _, heap_alloc_new w _, Kd.C_alloc hr _⟩)
  have HN := Aside0.mk (node_New.calls a0 a1 A1 c1 l1 b0 b1 b2 b3 b4 b5 p0 p1 p2 p3 p4 dr rb xr (w.alloc (.cells #[.string a0, .int .i64 a1, .slice A1 l1.length c1, .bool b0, .bool b1, .int .i64 b2, .int .i64 b3, .int .i64 b4, .int .i64 b5, .int .i64 p0, .int .i64 p1, .int .i64 p2, .int .i64 p3, .bool p4] 44 (0, 0))) HQ.out.d hc hl hd hrb hx)
  clear hd hrb hx he hr hl
  go_enter Tryz.func10, Tryz.ntmps10
  go_wp2_with (fail)
  (with_reducible refine HN.out.mono ?_)
  rintro r w2 ⟨⟨p, hp, rfl⟩, hb⟩
  have HQ2 := Aside0.mk (CX_below HQ.out hb)
  clear hb HQ HN hp
  generalize newE dr l1.length rb xr (tncB p0 p1 p2 p3) = er at HE ⊢
  have hb1 : (er != 0) = true := bne_iff_ne.2 HE.out
  go_wp2_with (fail)
  go_ret
  exact ⟨rfl, HQ2.out.b⟩
abbrev SY (A : Option Addr) (l : List S37) (w0 : World) (v0 v1 v2 v3 v4 v5 v6 v7 v8 v9 v10 v11 v12 v13 : Value) (W : World) : Prop := EnvW W ∧ Kd.C k37 W A l.length l ∧ Below w0.heap.size w0 W ∧ W.heap[w0.heap.size]? = some (.cells #[v0, v1, v2, v3, v4, v5, v6, v7, v8, v9, v10, v11, v12, v13] 44 (0, 0)) ∧ W.cell? ⟨w0.heap.size, 0, none⟩ = some v0 ∧ W.cell? ⟨w0.heap.size, 1, none⟩ = some v1 ∧ W.cell? ⟨w0.heap.size, 2, none⟩ = some v2 ∧ W.cell? ⟨w0.heap.size, 3, none⟩ = some v3 ∧ W.cell? ⟨w0.heap.size, 4, none⟩ = some v4 ∧ W.cell? ⟨w0.heap.size, 5, none⟩ = some v5 ∧ W.cell? ⟨w0.heap.size, 6, none⟩ = some v6 ∧ W.cell? ⟨w0.heap.size, 7, none⟩ = some v7 ∧ W.cell? ⟨w0.heap.size, 8, none⟩ = some v8 ∧ W.cell? ⟨w0.heap.size, 9, none⟩ = some v9 ∧ W.cell? ⟨w0.heap.size, 10, none⟩ = some v10 ∧ W.cell? ⟨w0.heap.size, 11, none⟩ = some v11 ∧ W.cell? ⟨w0.heap.size, 12, none⟩ = some v12 ∧ W.cell? ⟨w0.heap.size, 13, none⟩ = some v13
theorem SY_call {A : Option Addr} {l : List S37} {w0 W W' : World} {v0 v1 v2 v3 v4 v5 v6 v7 v8 v9 v10 v11 v12 v13 : Value} (h : SY A l w0 v0 v1 v2 v3 v4 v5 v6 v7 v8 v9 v10 v11 v12 v13 W) (hb : Below W.heap.size W W') : SY A l w0 v0 v1 v2 v3 v4 v5 v6 v7 v8 v9 v10 v11 v12 v13 W' := ⟨h.1.below hb, Kd.C_below h.2.1 hb, SX_call h.2.2 hb⟩
theorem sy_env {A : Option Addr} {l : List S37} {w0 W : World} {v0 v1 v2 v3 v4 v5 v6 v7 v8 v9 v10 v11 v12 v13 : Value} (h : SY A l w0 v0 v1 v2 v3 v4 v5 v6 v7 v8 v9 v10 v11 v12 v13 W) : EnvW W := h.1
theorem sy_c {A : Option Addr} {l : List S37} {w0 W : World} {v0 v1 v2 v3 v4 v5 v6 v7 v8 v9 v10 v11 v12 v13 : Value} (h : SY A l w0 v0 v1 v2 v3 v4 v5 v6 v7 v8 v9 v10 v11 v12 v13 W) : Kd.C k37 W A l.length l := h.2.1
theorem SY_drew {A : Option Addr} {l : List S37} {w0 W : World} {v0 v1 v2 v3 v4 v5 v6 v7 v8 v9 v10 v11 v12 v13 : Value} (h : SY A l w0 v0 v1 v2 v3 v4 v5 v6 v7 v8 v9 v10 v11 v12 v13 W) : SY A l w0 v0 v1 v2 v3 v4 v5 v6 v7 v8 v9 v10 v11 v12 v13 W.drew := SY_call h (below_drew (Below.refl _ _))
theorem SY_alloc {A : Option Addr} {l : List S37} {w0 W : World} {v0 v1 v2 v3 v4 v5 v6 v7 v8 v9 v10 v11 v12 v13 : Value} (h : SY A l w0 v0 v1 v2 v3 v4 v5 v6 v7 v8 v9 v10 v11 v12 v13 W) (o : Obj) : SY A l w0 v0 v1 v2 v3 v4 v5 v6 v7 v8 v9 v10 v11 v12 v13 (W.alloc o) := SY_call h ((Below.refl _ _).alloc (Nat.le_refl _) o)
def bitI (b : Bool) : Int := if b = true then 1 else 0
theorem bit_f (b : Bool) : script_bit.f b = some (bitI b) := by cases b <;> rfl
theorem itoa_f (n : Int) (h : I64 n) : strconv_Itoa_28.f n = some (itoaB n) := by unfold strconv_Itoa_28.f; unfold I64 at h; rw [if_pos h]
theorem bit_i64 (b : Bool) : I64 (bitI b) := by cases b <;> (unfold bitI I64; simp)
def nodeN (b0 b1 : Bool) (b2 b3 b4 b5 p0 p1 p2 p3 : Int) (p4 : Bool) : List ByteArray := [itoaB (bitI b0), itoaB (bitI b1), itoaB b2, itoaB b3, itoaB b4, itoaB b5, itoaB p0, itoaB p1, itoaB p2, itoaB p3, itoaB (bitI p4)]
theorem row3 {W : World} {b z : Nat} {x y u : ByteArray} (h : W.ownsRow b 9 1 (.slice (some ⟨z, 0, none⟩) 3 3) 3 [.string x, .string y, .string u]) : Kd.R Kd.string 9 W b (fun k => k = z) (.slice (some ⟨z, 0, none⟩) 3 3) [x, y, u] := Kd.R_of_own (xs := [x, y, u]) h (fun k hk => by simpa [Value.ownBlock] using hk.symm)
set_option maxHeartbeats 8000000 in
set_option maxRecDepth 100000 in
theorem snode_ok (a0 : ByteArray) (a1 : Int) (A1 : Option Addr) (c1 : Nat) (l1 : List S37) (b0 b1 : Bool) (b2 b3 b4 b5 p0 p1 p2 p3 : Int) (p4 : Bool) (dr rb xr : Bool) (K : Nat) (tc al : ByteArray) (w : World) (hE : EnvW w)
    (hr : Kd.C k37 w A1 l1.length l1) (hc : l1.length ≤ c1) (hl : l1.length ≤ 900000) (hd : call_Distinct.f (⟨a0, a1⟩ :: l1) = some dr) (hrb : call_Right.f a0 a1 = some rb) (hx : xid_Right.f b0 b1 b2 b3 b4 b5 = some xr) (he : newE dr l1.length rb xr (tncB p0 p1 p2 p3) = 0)
    (hI : I64 b2 ∧ I64 b3 ∧ I64 b4 ∧ I64 b5 ∧ I64 p0 ∧ I64 p1 ∧ I64 p2 ∧ I64 p3) (ht : call_Text.f a0 a1 = some tc) (ha : script_aliases.f K l1 = some al) (rj : ByteArray) (hj : strings_Join.f ([⟨#[78, 79, 68, 69]⟩, tc, al] ++ (nodeN b0 b1 b2 b3 b4 b5 p0 p1 p2 p3 p4).take 11) ⟨#[32]⟩ = some rj) :
    Calls Tryz.prog 10 #[.agg #[.string a0, .int .i64 a1, .slice A1 l1.length c1, .bool b0, .bool b1, .int .i64 b2, .int .i64 b3, .int .i64 b4, .int .i64 b5, .int .i64 p0, .int .i64 p1, .int .i64 p2, .int .i64 p3, .bool p4]] w fun e w' => e = .returned (.string rj) ∧ Below w.heap.size w w' := by
  have HEw := Aside0.mk hE
  have HRw := Aside0.mk hr
  have HI := Aside0.mk hI
  clear hI
  have HT := Aside0.mk ht
  have HA := Aside0.mk ha
  have HEN := Aside0.mk (hE.below ((Below.refl _ _).alloc (Nat.le_refl _) (.cells #[.string a0, .int .i64 a1, .slice A1 l1.length c1, .bool b0, .bool b1, .int .i64 b2, .int .i64 b3, .int .i64 b4, .int .i64 b5, .int .i64 p0, .int .i64 p1, .int .i64 p2, .int .i64 p3, .bool p4] 44 (0, 0))))
  have HQ := Aside0.mk (show CX w #[.string a0, .int .i64 a1, .slice A1 l1.length c1, .bool b0, .bool b1, .int .i64 b2, .int .i64 b3, .int .i64 b4, .int .i64 b5, .int .i64 p0, .int .i64 p1, .int .i64 p2, .int .i64 p3, .bool p4] A1 l1 (w.alloc (.cells #[.string a0, .int .i64 a1, .slice A1 l1.length c1, .bool b0, .bool b1, .int .i64 b2, .int .i64 b3, .int .i64 b4, .int .i64 b5, .int .i64 p0, .int .i64 p1, .int .i64 p2, .int .i64 p3, .bool p4] 44 (0, 0))) from ⟨(Below.refl _ _).alloc (Nat.le_refl _) _, heap_alloc_new w _, Kd.C_alloc hr _⟩)
  have HN := Aside0.mk (node_New.calls a0 a1 A1 c1 l1 b0 b1 b2 b3 b4 b5 p0 p1 p2 p3 p4 dr rb xr (w.alloc (.cells #[.string a0, .int .i64 a1, .slice A1 l1.length c1, .bool b0, .bool b1, .int .i64 b2, .int .i64 b3, .int .i64 b4, .int .i64 b5, .int .i64 p0, .int .i64 p1, .int .i64 p2, .int .i64 p3, .bool p4] 44 (0, 0))) HQ.out.d hc hl hd hrb hx)
  rw [he] at HN
  clear hd hrb hx he hr hl hE ht ha
  go_enter Tryz.func10, Tryz.ntmps10
  go_wp2_with (fail)
  (with_reducible refine HN.out.mono ?_)
  rintro r w2 ⟨⟨p, hp, rfl⟩, hb⟩
  have hS : SY A1 l1 w (.string a0) (.int .i64 a1) (.slice A1 l1.length c1) (.bool b0) (.bool b1) (.int .i64 b2) (.int .i64 b3) (.int .i64 b4) (.int .i64 b5) (.int .i64 p0) (.int .i64 p1) (.int .i64 p2) (.int .i64 p3) (.bool p4) w2 := ⟨HEN.out.below hb, Kd.C_below HQ.out.d hb, SX_mk (CX_below HQ.out hb).b (CX_below HQ.out hb).h⟩
  clear hb HQ HN hp HEN
  obtain ⟨s1, s2, s3, s4, k0, k1, k2, k3, k4, k5, k6, k7, k8, k9, k10, k11, k12, k13⟩ := hS
  go_wp2_with (fail)
  have hSS : SY A1 l1 w (.string a0) (.int .i64 a1) (.slice A1 l1.length c1) (.bool b0) (.bool b1) (.int .i64 b2) (.int .i64 b3) (.int .i64 b4) (.int .i64 b5) (.int .i64 p0) (.int .i64 p1) (.int .i64 p2) (.int .i64 p3) (.bool p4) w2 := ⟨s1, s2, s3, s4, k0, k1, k2, k3, k4, k5, k6, k7, k8, k9, k10, k11, k12, k13⟩
  clear s1 s2 s3 s4 k0 k1 k2 k3 k4 k5 k6 k7 k8 k9 k10 k11 k12 k13
  go_region_held3 (fun w' => EnvW w' ∧ Kd.C k37 w' A1 l1.length l1 ∧ Below w.heap.size w w' ∧ w'.heap[w.heap.size]? = some (.cells #[.string a0, .int .i64 a1, .slice A1 l1.length c1, .bool b0, .bool b1, .int .i64 b2, .int .i64 b3, .int .i64 b4, .int .i64 b5, .int .i64 p0, .int .i64 p1, .int .i64 p2, .int .i64 p3, .bool p4] 44 (0, 0)) ∧ w'.cell? ⟨w.heap.size, 0, none⟩ = some (.string a0) ∧ w'.cell? ⟨w.heap.size, 1, none⟩ = some (.int .i64 a1) ∧ w'.cell? ⟨w.heap.size, 2, none⟩ = some (.slice A1 l1.length c1) ∧ w'.cell? ⟨w.heap.size, 3, none⟩ = some (.bool b0) ∧ w'.cell? ⟨w.heap.size, 4, none⟩ = some (.bool b1) ∧ w'.cell? ⟨w.heap.size, 5, none⟩ = some (.int .i64 b2) ∧ w'.cell? ⟨w.heap.size, 6, none⟩ = some (.int .i64 b3) ∧ w'.cell? ⟨w.heap.size, 7, none⟩ = some (.int .i64 b4) ∧ w'.cell? ⟨w.heap.size, 8, none⟩ = some (.int .i64 b5) ∧ w'.cell? ⟨w.heap.size, 9, none⟩ = some (.int .i64 p0) ∧ w'.cell? ⟨w.heap.size, 10, none⟩ = some (.int .i64 p1) ∧ w'.cell? ⟨w.heap.size, 11, none⟩ = some (.int .i64 p2) ∧ w'.cell? ⟨w.heap.size, 12, none⟩ = some (.int .i64 p3) ∧ w'.cell? ⟨w.heap.size, 13, none⟩ = some (.bool p4)) (first | exact SY_call (by assumption) (by assumption) | exact SY_drew (by assumption) | exact SY_alloc (by assumption) _ | assumption) (first | (go_at_call 24; (with_reducible refine (call_Text.calls a0 a1 tc _ (sy_env (by assumption)) HT.out).mono ?_); rintro r w24 ⟨rfl, h24⟩) | (go_at_call 25; (with_reducible refine (script_aliases.calls K A1 c1 l1 al _ (sy_env (by assumption)) (sy_c (by assumption)) hc HA.out).mono ?_); rintro r w25 ⟨rfl, h25⟩))
  have hlast : SY A1 l1 w (.string a0) (.int .i64 a1) (.slice A1 l1.length c1) (.bool b0) (.bool b1) (.int .i64 b2) (.int .i64 b3) (.int .i64 b4) (.int .i64 b5) (.int .i64 p0) (.int .i64 p1) (.int .i64 p2) (.int .i64 p3) (.bool p4) (w25.alloc (.cells #[.string ⟨#[78, 79, 68, 69]⟩, .string tc, .string al] 9 (0, 0))) := by assumption
  have HS := Aside0.mk hlast
  have HL := Aside0.mk (heap_alloc_new w25 (.cells #[.string ⟨#[78, 79, 68, 69]⟩, .string tc, .string al] 9 (0, 0)))
  have HZ := Aside0.mk (show w25.heap.size < (w25.alloc (.cells #[.string ⟨#[78, 79, 68, 69]⟩, .string tc, .string al] 9 (0, 0))).heap.size by simp)
  have hwz : w.heap.size < w25.heap.size := by
    have h1 := hlast.2.2.2.1
    have h2 := lt_of_some h1
    rw [World.size_alloc] at h2
    by_cases h3 : w.heap.size = w25.heap.size
    · rw [h3, heap_alloc_new] at h1
      injection h1 with h4
      injection h4 with _ h5
      cases h5
    · omega
  have hrow := World.ownsRow_lit (base := w.heap.size) (e := 9) (size := 1) w25 #[.string ⟨#[78, 79, 68, 69]⟩, .string tc, .string al] 3 (Nat.le_of_lt hwz) (by have : maxLen = 9223372036854775807 := rfl; omega) rfl
  have HO7 : Aside0 (Kd.R Kd.string 9 (w25.alloc (.cells #[.string ⟨#[78, 79, 68, 69]⟩, .string tc, .string al] 9 (0, 0))) w.heap.size (fun k => k = w25.heap.size) (.slice (some ⟨w25.heap.size, 0, none⟩) 3 3) [⟨#[78, 79, 68, 69]⟩, tc, al]) := Aside0.mk (row3 hrow)
  clear hrow
  obtain ⟨w7, hw7⟩ : ∃ w7, w25.alloc (.cells #[.string ⟨#[78, 79, 68, 69]⟩, .string tc, .string al] 9 (0, 0)) = w7 := ⟨_, rfl⟩
  rw [hw7] at HS HL HZ HO7
  rw [hw7]
  clear hlast hw7
  go_wp2_with (fail)
  (with_reducible refine (script_flags_calls w.heap.size _).mono ?_)
  rintro r w8 ⟨⟨m8, es8, clk8, rfl, hm8, hf8, hg8⟩, hb8⟩
  have HS8 := Aside0.mk (SY_call HS.out hb8)
  have HO8 := Aside0.mk (Kd.R_below HO7.out hb8)
  have hzz := HZ.out
  have hz8 := hb8.size
  have HL8 := Aside0.mk ((hb8.block _ HZ.out).trans HL.out)
  have HM8 := Aside0.mk hm8
  have HF8 := Aside0.mk hf8
  clear HS HL hm8 hf8
  go_wp2_with (fail)
  (with_reducible refine (script_sizes_calls w.heap.size _).mono ?_)
  rintro r w9 ⟨⟨m9, es9, clk9, rfl, hm9, hf9, hg9⟩, hb9⟩
  have HS9 := Aside0.mk (SY_call HS8.out hb9)
  have HO9 := Aside0.mk (Kd.R_below HO8.out hb9)
  have HL9 := Aside0.mk ((hb9.block _ (Nat.lt_of_lt_of_le HZ.out hb8.size)).trans HL8.out)
  have HM9 := Aside0.mk ((hb9.block _ (lt_of_some HM8.out)).trans HM8.out)
  have HN9 := Aside0.mk hm9
  have HF9 := Aside0.mk hf9
  clear HS8 HL8 HM8 hm9 hf9 hb8 hb9
  go_wp2_with (fail)
  have hown : Kd.R Kd.string 9 w9 w.heap.size (fun k => k ≠ w.heap.size ∧ k ≠ m8 ∧ k ≠ m9) (.slice (some ⟨w25.heap.size, 0, none⟩) 3 3) [⟨#[78, 79, 68, 69]⟩, tc, al] := by
    exact Kd.R_mono HO9.out (fun k hk => ⟨by omega, by omega, by omega⟩)
  have HR9 := Aside0.mk hown
  clear hown HL9
  go_loopw [5, 26] (fun v5 v26 wr => ∃ (i : Nat) (xs : List ByteArray), i ≤ 11 ∧ v26 = .int .i64 i ∧ xs = [⟨#[78, 79, 68, 69]⟩, tc, al] ++ (nodeN b0 b1 b2 b3 b4 b5 p0 p1 p2 p3 p4).take i ∧ Aside0 (Kd.R Kd.string 9 wr w.heap.size (fun k => k ≠ w.heap.size ∧ k ≠ m8 ∧ k ≠ m9) v5 xs) ∧ Aside0 (SY A1 l1 w (.string a0) (.int .i64 a1) (.slice A1 l1.length c1) (.bool b0) (.bool b1) (.int .i64 b2) (.int .i64 b3) (.int .i64 b4) (.int .i64 b5) (.int .i64 p0) (.int .i64 p1) (.int .i64 p2) (.int .i64 p3) (.bool p4) wr) ∧ Aside0 (wr.heap[m8]? = some (.map es8 clk8)) ∧ Aside0 (wr.heap[m9]? = some (.map es9 clk9))) (fun _ v26 _ => 11 - (intOf v26).toNat)
  case atStart => exact ⟨0, _, by omega, rfl, rfl, HR9, HS9, HM9, HN9⟩
  case round =>
    clear HR9 HS9 HM9 HN9
    obtain ⟨i, xs, hi, rfl, hxs, HR, HS, HM, HN⟩ := hrel
    by_cases hlt : i < 11
    · rcases (show i = 0 ∨ i = 1 ∨ i = 2 ∨ i = 3 ∨ i = 4 ∨ i = 5 ∨ i = 6 ∨ i = 7 ∨ i = 8 ∨ i = 9 ∨ i = 10 by omega) with rfl | rfl | rfl | rfl | rfl | rfl | rfl | rfl | rfl | rfl | rfl
      · obtain ⟨s1, s2, s3, s4, k0, k1, k2, k3, k4, k5, k6, k7, k8, k9, k10, k11, k12, k13⟩ := HS.out
        obtain ⟨ix, hfind⟩ := FM_some HF8.out 0 (.pointer (some ⟨w.heap.size, 3, none⟩)) rfl
        have ug := map_get wr 73 78 m8 clk8 es8 0 _ ix Tryz.underlying73 HM.out hfind
        go_wp2_with (first | rw [ug])
        (with_reducible refine (script_bit.calls b0 (bitI b0) _ (bit_f b0)).mono ?_)
        rintro r wb ⟨rfl, hdb⟩
        have HSb := Aside0.mk (SY_call HS.out hdb.below)
        have HRb := Aside0.mk (Kd.R_below HR.out hdb.below)
        have HMb := Aside0.mk (blk_below HM.out hdb.below)
        have HNb := Aside0.mk (blk_below HN.out hdb.below)
        clear HS HR HM HN s1 s2 s3 s4 k0 k1 k2 k3 k4 k5 k6 k7 k8 k9 k10 k11 k12 k13 ug hdb
        go_wp2_with (fail)
        (with_reducible refine (strconv_Itoa_28.calls (bitI b0) (itoaB (bitI b0)) _ HSb.out.1 (itoa_f _ (bit_i64 b0))).mono ?_)
        rintro r wc ⟨rfl, hbc⟩
        have HSc := Aside0.mk (SY_call HSb.out hbc)
        have HRc := Aside0.mk (Kd.R_below HRb.out hbc)
        have HMc := Aside0.mk (blk_below HMb.out hbc)
        have HNc := Aside0.mk (blk_below HNb.out hbc)
        clear HSb HRb HMb HNb hbc
        go_wp2_with (at_builtin; refine Kd.R_append Kd.string (w0 := w) w.heap.size rfl (.tmp 34) (.tmp 40) 52 9 (.string ⟨#[]⟩) 16 rfl Tryz.underlying52 info9 rfl (by decide) (by omega) u5 xs (itoaB (bitI b0)) [.string (itoaB (bitI b0))] (fun k => k ≠ w.heap.size ∧ k ≠ m8 ∧ k ≠ m9) (fun _ => False) rfl rfl rfl (fun _ hk => hk.elim) (fun i hi => ⟨by have := lt_of_some HSc.out.2.2.2.1; omega, by have := lt_of_some HMc.out; omega, by have := lt_of_some HNc.out; omega⟩) HRc.out HSc.out.2.2.1 HSc.out.2.2.1.size (by rw [hxs]; simp [nodeN]) ?_; intro v1 wd ho hbd hgd hat)
        have hh4 := (hgd.block _ (lt_of_some HSc.out.2.2.2.1) (fun e => (HRc.out.1 _ e.symm).1 rfl)).trans HSc.out.2.2.2.1
        have hM4 := (hgd.block _ (lt_of_some HMc.out) (fun e => (HRc.out.1 _ e.symm).2.1 rfl)).trans HMc.out
        have hN4 := (hgd.block _ (lt_of_some HNc.out) (fun e => (HRc.out.1 _ e.symm).2.2 rfl)).trans HNc.out
        go_roundw
        case rel => exact ⟨1, xs ++ [itoaB (bitI b0)], by omega, rfl, by rw [hxs]; rfl, ⟨ho⟩, ⟨⟨HEw.out.below hbd, Kd.C_below HRw.out hbd, SX_mk hbd hh4⟩⟩, ⟨hM4⟩, ⟨hN4⟩⟩
        case measure => simp [intOf]
      · obtain ⟨s1, s2, s3, s4, k0, k1, k2, k3, k4, k5, k6, k7, k8, k9, k10, k11, k12, k13⟩ := HS.out
        obtain ⟨ix, hfind⟩ := FM_some HF8.out 1 (.pointer (some ⟨w.heap.size, 4, none⟩)) rfl
        have ug := map_get wr 73 78 m8 clk8 es8 1 _ ix Tryz.underlying73 HM.out hfind
        go_wp2_with (first | rw [ug])
        (with_reducible refine (script_bit.calls b1 (bitI b1) _ (bit_f b1)).mono ?_)
        rintro r wb ⟨rfl, hdb⟩
        have HSb := Aside0.mk (SY_call HS.out hdb.below)
        have HRb := Aside0.mk (Kd.R_below HR.out hdb.below)
        have HMb := Aside0.mk (blk_below HM.out hdb.below)
        have HNb := Aside0.mk (blk_below HN.out hdb.below)
        clear HS HR HM HN s1 s2 s3 s4 k0 k1 k2 k3 k4 k5 k6 k7 k8 k9 k10 k11 k12 k13 ug hdb
        go_wp2_with (fail)
        (with_reducible refine (strconv_Itoa_28.calls (bitI b1) (itoaB (bitI b1)) _ HSb.out.1 (itoa_f _ (bit_i64 b1))).mono ?_)
        rintro r wc ⟨rfl, hbc⟩
        have HSc := Aside0.mk (SY_call HSb.out hbc)
        have HRc := Aside0.mk (Kd.R_below HRb.out hbc)
        have HMc := Aside0.mk (blk_below HMb.out hbc)
        have HNc := Aside0.mk (blk_below HNb.out hbc)
        clear HSb HRb HMb HNb hbc
        go_wp2_with (at_builtin; refine Kd.R_append Kd.string (w0 := w) w.heap.size rfl (.tmp 34) (.tmp 40) 52 9 (.string ⟨#[]⟩) 16 rfl Tryz.underlying52 info9 rfl (by decide) (by omega) u5 xs (itoaB (bitI b1)) [.string (itoaB (bitI b1))] (fun k => k ≠ w.heap.size ∧ k ≠ m8 ∧ k ≠ m9) (fun _ => False) rfl rfl rfl (fun _ hk => hk.elim) (fun i hi => ⟨by have := lt_of_some HSc.out.2.2.2.1; omega, by have := lt_of_some HMc.out; omega, by have := lt_of_some HNc.out; omega⟩) HRc.out HSc.out.2.2.1 HSc.out.2.2.1.size (by rw [hxs]; simp [nodeN]) ?_; intro v1 wd ho hbd hgd hat)
        have hh4 := (hgd.block _ (lt_of_some HSc.out.2.2.2.1) (fun e => (HRc.out.1 _ e.symm).1 rfl)).trans HSc.out.2.2.2.1
        have hM4 := (hgd.block _ (lt_of_some HMc.out) (fun e => (HRc.out.1 _ e.symm).2.1 rfl)).trans HMc.out
        have hN4 := (hgd.block _ (lt_of_some HNc.out) (fun e => (HRc.out.1 _ e.symm).2.2 rfl)).trans HNc.out
        go_roundw
        case rel => exact ⟨2, xs ++ [itoaB (bitI b1)], by omega, rfl, by rw [hxs]; rfl, ⟨ho⟩, ⟨⟨HEw.out.below hbd, Kd.C_below HRw.out hbd, SX_mk hbd hh4⟩⟩, ⟨hM4⟩, ⟨hN4⟩⟩
        case measure => simp [intOf]
      · obtain ⟨s1, s2, s3, s4, k0, k1, k2, k3, k4, k5, k6, k7, k8, k9, k10, k11, k12, k13⟩ := HS.out
        have ug := map_miss wr 73 78 m8 clk8 es8 2 (.pointer none) Tryz.underlying73 (Tryz.zeroValue78 wr) HM.out (FM_none HF8.out 2 rfl)
        obtain ⟨ix, hfind⟩ := FM_some HF9.out 2 (.pointer (some ⟨w.heap.size, 5, none⟩)) rfl
        have uh := map_get wr 76 81 m9 clk9 es9 2 _ ix Tryz.underlying76 HN.out hfind
        go_wp2_with (first | rw [ug] | rw [uh])
        (with_reducible refine (strconv_Itoa_28.calls b2 (itoaB b2) _ HS.out.1 (itoa_f _ HI.out.1)).mono ?_)
        rintro r wc ⟨rfl, hbc⟩
        have HSc := Aside0.mk (SY_call HS.out hbc)
        have HRc := Aside0.mk (Kd.R_below HR.out hbc)
        have HMc := Aside0.mk (blk_below HM.out hbc)
        have HNc := Aside0.mk (blk_below HN.out hbc)
        clear HS HR HM HN s1 s2 s3 s4 k0 k1 k2 k3 k4 k5 k6 k7 k8 k9 k10 k11 k12 k13 ug uh hbc
        go_wp2_with (at_builtin; refine Kd.R_append Kd.string (w0 := w) w.heap.size rfl (.tmp 42) (.tmp 49) 52 9 (.string ⟨#[]⟩) 16 rfl Tryz.underlying52 info9 rfl (by decide) (by omega) u5 xs (itoaB b2) [.string (itoaB b2)] (fun k => k ≠ w.heap.size ∧ k ≠ m8 ∧ k ≠ m9) (fun _ => False) rfl rfl rfl (fun _ hk => hk.elim) (fun i hi => ⟨by have := lt_of_some HSc.out.2.2.2.1; omega, by have := lt_of_some HMc.out; omega, by have := lt_of_some HNc.out; omega⟩) HRc.out HSc.out.2.2.1 HSc.out.2.2.1.size (by rw [hxs]; simp [nodeN]) ?_; intro v1 wd ho hbd hgd hat)
        have hh4 := (hgd.block _ (lt_of_some HSc.out.2.2.2.1) (fun e => (HRc.out.1 _ e.symm).1 rfl)).trans HSc.out.2.2.2.1
        have hM4 := (hgd.block _ (lt_of_some HMc.out) (fun e => (HRc.out.1 _ e.symm).2.1 rfl)).trans HMc.out
        have hN4 := (hgd.block _ (lt_of_some HNc.out) (fun e => (HRc.out.1 _ e.symm).2.2 rfl)).trans HNc.out
        go_roundw
        case rel => exact ⟨3, xs ++ [itoaB b2], by omega, rfl, by rw [hxs]; rfl, ⟨ho⟩, ⟨⟨HEw.out.below hbd, Kd.C_below HRw.out hbd, SX_mk hbd hh4⟩⟩, ⟨hM4⟩, ⟨hN4⟩⟩
        case measure => simp [intOf]
      · obtain ⟨s1, s2, s3, s4, k0, k1, k2, k3, k4, k5, k6, k7, k8, k9, k10, k11, k12, k13⟩ := HS.out
        have ug := map_miss wr 73 78 m8 clk8 es8 3 (.pointer none) Tryz.underlying73 (Tryz.zeroValue78 wr) HM.out (FM_none HF8.out 3 rfl)
        obtain ⟨ix, hfind⟩ := FM_some HF9.out 3 (.pointer (some ⟨w.heap.size, 6, none⟩)) rfl
        have uh := map_get wr 76 81 m9 clk9 es9 3 _ ix Tryz.underlying76 HN.out hfind
        go_wp2_with (first | rw [ug] | rw [uh])
        (with_reducible refine (strconv_Itoa_28.calls b3 (itoaB b3) _ HS.out.1 (itoa_f _ HI.out.2.1)).mono ?_)
        rintro r wc ⟨rfl, hbc⟩
        have HSc := Aside0.mk (SY_call HS.out hbc)
        have HRc := Aside0.mk (Kd.R_below HR.out hbc)
        have HMc := Aside0.mk (blk_below HM.out hbc)
        have HNc := Aside0.mk (blk_below HN.out hbc)
        clear HS HR HM HN s1 s2 s3 s4 k0 k1 k2 k3 k4 k5 k6 k7 k8 k9 k10 k11 k12 k13 ug uh hbc
        go_wp2_with (at_builtin; refine Kd.R_append Kd.string (w0 := w) w.heap.size rfl (.tmp 42) (.tmp 49) 52 9 (.string ⟨#[]⟩) 16 rfl Tryz.underlying52 info9 rfl (by decide) (by omega) u5 xs (itoaB b3) [.string (itoaB b3)] (fun k => k ≠ w.heap.size ∧ k ≠ m8 ∧ k ≠ m9) (fun _ => False) rfl rfl rfl (fun _ hk => hk.elim) (fun i hi => ⟨by have := lt_of_some HSc.out.2.2.2.1; omega, by have := lt_of_some HMc.out; omega, by have := lt_of_some HNc.out; omega⟩) HRc.out HSc.out.2.2.1 HSc.out.2.2.1.size (by rw [hxs]; simp [nodeN]) ?_; intro v1 wd ho hbd hgd hat)
        have hh4 := (hgd.block _ (lt_of_some HSc.out.2.2.2.1) (fun e => (HRc.out.1 _ e.symm).1 rfl)).trans HSc.out.2.2.2.1
        have hM4 := (hgd.block _ (lt_of_some HMc.out) (fun e => (HRc.out.1 _ e.symm).2.1 rfl)).trans HMc.out
        have hN4 := (hgd.block _ (lt_of_some HNc.out) (fun e => (HRc.out.1 _ e.symm).2.2 rfl)).trans HNc.out
        go_roundw
        case rel => exact ⟨4, xs ++ [itoaB b3], by omega, rfl, by rw [hxs]; rfl, ⟨ho⟩, ⟨⟨HEw.out.below hbd, Kd.C_below HRw.out hbd, SX_mk hbd hh4⟩⟩, ⟨hM4⟩, ⟨hN4⟩⟩
        case measure => simp [intOf]
      · obtain ⟨s1, s2, s3, s4, k0, k1, k2, k3, k4, k5, k6, k7, k8, k9, k10, k11, k12, k13⟩ := HS.out
        have ug := map_miss wr 73 78 m8 clk8 es8 4 (.pointer none) Tryz.underlying73 (Tryz.zeroValue78 wr) HM.out (FM_none HF8.out 4 rfl)
        obtain ⟨ix, hfind⟩ := FM_some HF9.out 4 (.pointer (some ⟨w.heap.size, 7, none⟩)) rfl
        have uh := map_get wr 76 81 m9 clk9 es9 4 _ ix Tryz.underlying76 HN.out hfind
        go_wp2_with (first | rw [ug] | rw [uh])
        (with_reducible refine (strconv_Itoa_28.calls b4 (itoaB b4) _ HS.out.1 (itoa_f _ HI.out.2.2.1)).mono ?_)
        rintro r wc ⟨rfl, hbc⟩
        have HSc := Aside0.mk (SY_call HS.out hbc)
        have HRc := Aside0.mk (Kd.R_below HR.out hbc)
        have HMc := Aside0.mk (blk_below HM.out hbc)
        have HNc := Aside0.mk (blk_below HN.out hbc)
        clear HS HR HM HN s1 s2 s3 s4 k0 k1 k2 k3 k4 k5 k6 k7 k8 k9 k10 k11 k12 k13 ug uh hbc
        go_wp2_with (at_builtin; refine Kd.R_append Kd.string (w0 := w) w.heap.size rfl (.tmp 42) (.tmp 49) 52 9 (.string ⟨#[]⟩) 16 rfl Tryz.underlying52 info9 rfl (by decide) (by omega) u5 xs (itoaB b4) [.string (itoaB b4)] (fun k => k ≠ w.heap.size ∧ k ≠ m8 ∧ k ≠ m9) (fun _ => False) rfl rfl rfl (fun _ hk => hk.elim) (fun i hi => ⟨by have := lt_of_some HSc.out.2.2.2.1; omega, by have := lt_of_some HMc.out; omega, by have := lt_of_some HNc.out; omega⟩) HRc.out HSc.out.2.2.1 HSc.out.2.2.1.size (by rw [hxs]; simp [nodeN]) ?_; intro v1 wd ho hbd hgd hat)
        have hh4 := (hgd.block _ (lt_of_some HSc.out.2.2.2.1) (fun e => (HRc.out.1 _ e.symm).1 rfl)).trans HSc.out.2.2.2.1
        have hM4 := (hgd.block _ (lt_of_some HMc.out) (fun e => (HRc.out.1 _ e.symm).2.1 rfl)).trans HMc.out
        have hN4 := (hgd.block _ (lt_of_some HNc.out) (fun e => (HRc.out.1 _ e.symm).2.2 rfl)).trans HNc.out
        go_roundw
        case rel => exact ⟨5, xs ++ [itoaB b4], by omega, rfl, by rw [hxs]; rfl, ⟨ho⟩, ⟨⟨HEw.out.below hbd, Kd.C_below HRw.out hbd, SX_mk hbd hh4⟩⟩, ⟨hM4⟩, ⟨hN4⟩⟩
        case measure => simp [intOf]
      · obtain ⟨s1, s2, s3, s4, k0, k1, k2, k3, k4, k5, k6, k7, k8, k9, k10, k11, k12, k13⟩ := HS.out
        have ug := map_miss wr 73 78 m8 clk8 es8 5 (.pointer none) Tryz.underlying73 (Tryz.zeroValue78 wr) HM.out (FM_none HF8.out 5 rfl)
        obtain ⟨ix, hfind⟩ := FM_some HF9.out 5 (.pointer (some ⟨w.heap.size, 8, none⟩)) rfl
        have uh := map_get wr 76 81 m9 clk9 es9 5 _ ix Tryz.underlying76 HN.out hfind
        go_wp2_with (first | rw [ug] | rw [uh])
        (with_reducible refine (strconv_Itoa_28.calls b5 (itoaB b5) _ HS.out.1 (itoa_f _ HI.out.2.2.2.1)).mono ?_)
        rintro r wc ⟨rfl, hbc⟩
        have HSc := Aside0.mk (SY_call HS.out hbc)
        have HRc := Aside0.mk (Kd.R_below HR.out hbc)
        have HMc := Aside0.mk (blk_below HM.out hbc)
        have HNc := Aside0.mk (blk_below HN.out hbc)
        clear HS HR HM HN s1 s2 s3 s4 k0 k1 k2 k3 k4 k5 k6 k7 k8 k9 k10 k11 k12 k13 ug uh hbc
        go_wp2_with (at_builtin; refine Kd.R_append Kd.string (w0 := w) w.heap.size rfl (.tmp 42) (.tmp 49) 52 9 (.string ⟨#[]⟩) 16 rfl Tryz.underlying52 info9 rfl (by decide) (by omega) u5 xs (itoaB b5) [.string (itoaB b5)] (fun k => k ≠ w.heap.size ∧ k ≠ m8 ∧ k ≠ m9) (fun _ => False) rfl rfl rfl (fun _ hk => hk.elim) (fun i hi => ⟨by have := lt_of_some HSc.out.2.2.2.1; omega, by have := lt_of_some HMc.out; omega, by have := lt_of_some HNc.out; omega⟩) HRc.out HSc.out.2.2.1 HSc.out.2.2.1.size (by rw [hxs]; simp [nodeN]) ?_; intro v1 wd ho hbd hgd hat)
        have hh4 := (hgd.block _ (lt_of_some HSc.out.2.2.2.1) (fun e => (HRc.out.1 _ e.symm).1 rfl)).trans HSc.out.2.2.2.1
        have hM4 := (hgd.block _ (lt_of_some HMc.out) (fun e => (HRc.out.1 _ e.symm).2.1 rfl)).trans HMc.out
        have hN4 := (hgd.block _ (lt_of_some HNc.out) (fun e => (HRc.out.1 _ e.symm).2.2 rfl)).trans HNc.out
        go_roundw
        case rel => exact ⟨6, xs ++ [itoaB b5], by omega, rfl, by rw [hxs]; rfl, ⟨ho⟩, ⟨⟨HEw.out.below hbd, Kd.C_below HRw.out hbd, SX_mk hbd hh4⟩⟩, ⟨hM4⟩, ⟨hN4⟩⟩
        case measure => simp [intOf]
      · obtain ⟨s1, s2, s3, s4, k0, k1, k2, k3, k4, k5, k6, k7, k8, k9, k10, k11, k12, k13⟩ := HS.out
        have ug := map_miss wr 73 78 m8 clk8 es8 6 (.pointer none) Tryz.underlying73 (Tryz.zeroValue78 wr) HM.out (FM_none HF8.out 6 rfl)
        obtain ⟨ix, hfind⟩ := FM_some HF9.out 6 (.pointer (some ⟨w.heap.size, 9, none⟩)) rfl
        have uh := map_get wr 76 81 m9 clk9 es9 6 _ ix Tryz.underlying76 HN.out hfind
        go_wp2_with (first | rw [ug] | rw [uh])
        (with_reducible refine (strconv_Itoa_28.calls p0 (itoaB p0) _ HS.out.1 (itoa_f _ HI.out.2.2.2.2.1)).mono ?_)
        rintro r wc ⟨rfl, hbc⟩
        have HSc := Aside0.mk (SY_call HS.out hbc)
        have HRc := Aside0.mk (Kd.R_below HR.out hbc)
        have HMc := Aside0.mk (blk_below HM.out hbc)
        have HNc := Aside0.mk (blk_below HN.out hbc)
        clear HS HR HM HN s1 s2 s3 s4 k0 k1 k2 k3 k4 k5 k6 k7 k8 k9 k10 k11 k12 k13 ug uh hbc
        go_wp2_with (at_builtin; refine Kd.R_append Kd.string (w0 := w) w.heap.size rfl (.tmp 42) (.tmp 49) 52 9 (.string ⟨#[]⟩) 16 rfl Tryz.underlying52 info9 rfl (by decide) (by omega) u5 xs (itoaB p0) [.string (itoaB p0)] (fun k => k ≠ w.heap.size ∧ k ≠ m8 ∧ k ≠ m9) (fun _ => False) rfl rfl rfl (fun _ hk => hk.elim) (fun i hi => ⟨by have := lt_of_some HSc.out.2.2.2.1; omega, by have := lt_of_some HMc.out; omega, by have := lt_of_some HNc.out; omega⟩) HRc.out HSc.out.2.2.1 HSc.out.2.2.1.size (by rw [hxs]; simp [nodeN]) ?_; intro v1 wd ho hbd hgd hat)
        have hh4 := (hgd.block _ (lt_of_some HSc.out.2.2.2.1) (fun e => (HRc.out.1 _ e.symm).1 rfl)).trans HSc.out.2.2.2.1
        have hM4 := (hgd.block _ (lt_of_some HMc.out) (fun e => (HRc.out.1 _ e.symm).2.1 rfl)).trans HMc.out
        have hN4 := (hgd.block _ (lt_of_some HNc.out) (fun e => (HRc.out.1 _ e.symm).2.2 rfl)).trans HNc.out
        go_roundw
        case rel => exact ⟨7, xs ++ [itoaB p0], by omega, rfl, by rw [hxs]; rfl, ⟨ho⟩, ⟨⟨HEw.out.below hbd, Kd.C_below HRw.out hbd, SX_mk hbd hh4⟩⟩, ⟨hM4⟩, ⟨hN4⟩⟩
        case measure => simp [intOf]
      · obtain ⟨s1, s2, s3, s4, k0, k1, k2, k3, k4, k5, k6, k7, k8, k9, k10, k11, k12, k13⟩ := HS.out
        have ug := map_miss wr 73 78 m8 clk8 es8 7 (.pointer none) Tryz.underlying73 (Tryz.zeroValue78 wr) HM.out (FM_none HF8.out 7 rfl)
        obtain ⟨ix, hfind⟩ := FM_some HF9.out 7 (.pointer (some ⟨w.heap.size, 10, none⟩)) rfl
        have uh := map_get wr 76 81 m9 clk9 es9 7 _ ix Tryz.underlying76 HN.out hfind
        go_wp2_with (first | rw [ug] | rw [uh])
        (with_reducible refine (strconv_Itoa_28.calls p1 (itoaB p1) _ HS.out.1 (itoa_f _ HI.out.2.2.2.2.2.1)).mono ?_)
        rintro r wc ⟨rfl, hbc⟩
        have HSc := Aside0.mk (SY_call HS.out hbc)
        have HRc := Aside0.mk (Kd.R_below HR.out hbc)
        have HMc := Aside0.mk (blk_below HM.out hbc)
        have HNc := Aside0.mk (blk_below HN.out hbc)
        clear HS HR HM HN s1 s2 s3 s4 k0 k1 k2 k3 k4 k5 k6 k7 k8 k9 k10 k11 k12 k13 ug uh hbc
        go_wp2_with (at_builtin; refine Kd.R_append Kd.string (w0 := w) w.heap.size rfl (.tmp 42) (.tmp 49) 52 9 (.string ⟨#[]⟩) 16 rfl Tryz.underlying52 info9 rfl (by decide) (by omega) u5 xs (itoaB p1) [.string (itoaB p1)] (fun k => k ≠ w.heap.size ∧ k ≠ m8 ∧ k ≠ m9) (fun _ => False) rfl rfl rfl (fun _ hk => hk.elim) (fun i hi => ⟨by have := lt_of_some HSc.out.2.2.2.1; omega, by have := lt_of_some HMc.out; omega, by have := lt_of_some HNc.out; omega⟩) HRc.out HSc.out.2.2.1 HSc.out.2.2.1.size (by rw [hxs]; simp [nodeN]) ?_; intro v1 wd ho hbd hgd hat)
        have hh4 := (hgd.block _ (lt_of_some HSc.out.2.2.2.1) (fun e => (HRc.out.1 _ e.symm).1 rfl)).trans HSc.out.2.2.2.1
        have hM4 := (hgd.block _ (lt_of_some HMc.out) (fun e => (HRc.out.1 _ e.symm).2.1 rfl)).trans HMc.out
        have hN4 := (hgd.block _ (lt_of_some HNc.out) (fun e => (HRc.out.1 _ e.symm).2.2 rfl)).trans HNc.out
        go_roundw
        case rel => exact ⟨8, xs ++ [itoaB p1], by omega, rfl, by rw [hxs]; rfl, ⟨ho⟩, ⟨⟨HEw.out.below hbd, Kd.C_below HRw.out hbd, SX_mk hbd hh4⟩⟩, ⟨hM4⟩, ⟨hN4⟩⟩
        case measure => simp [intOf]
      · obtain ⟨s1, s2, s3, s4, k0, k1, k2, k3, k4, k5, k6, k7, k8, k9, k10, k11, k12, k13⟩ := HS.out
        have ug := map_miss wr 73 78 m8 clk8 es8 8 (.pointer none) Tryz.underlying73 (Tryz.zeroValue78 wr) HM.out (FM_none HF8.out 8 rfl)
        obtain ⟨ix, hfind⟩ := FM_some HF9.out 8 (.pointer (some ⟨w.heap.size, 11, none⟩)) rfl
        have uh := map_get wr 76 81 m9 clk9 es9 8 _ ix Tryz.underlying76 HN.out hfind
        go_wp2_with (first | rw [ug] | rw [uh])
        (with_reducible refine (strconv_Itoa_28.calls p2 (itoaB p2) _ HS.out.1 (itoa_f _ HI.out.2.2.2.2.2.2.1)).mono ?_)
        rintro r wc ⟨rfl, hbc⟩
        have HSc := Aside0.mk (SY_call HS.out hbc)
        have HRc := Aside0.mk (Kd.R_below HR.out hbc)
        have HMc := Aside0.mk (blk_below HM.out hbc)
        have HNc := Aside0.mk (blk_below HN.out hbc)
        clear HS HR HM HN s1 s2 s3 s4 k0 k1 k2 k3 k4 k5 k6 k7 k8 k9 k10 k11 k12 k13 ug uh hbc
        go_wp2_with (at_builtin; refine Kd.R_append Kd.string (w0 := w) w.heap.size rfl (.tmp 42) (.tmp 49) 52 9 (.string ⟨#[]⟩) 16 rfl Tryz.underlying52 info9 rfl (by decide) (by omega) u5 xs (itoaB p2) [.string (itoaB p2)] (fun k => k ≠ w.heap.size ∧ k ≠ m8 ∧ k ≠ m9) (fun _ => False) rfl rfl rfl (fun _ hk => hk.elim) (fun i hi => ⟨by have := lt_of_some HSc.out.2.2.2.1; omega, by have := lt_of_some HMc.out; omega, by have := lt_of_some HNc.out; omega⟩) HRc.out HSc.out.2.2.1 HSc.out.2.2.1.size (by rw [hxs]; simp [nodeN]) ?_; intro v1 wd ho hbd hgd hat)
        have hh4 := (hgd.block _ (lt_of_some HSc.out.2.2.2.1) (fun e => (HRc.out.1 _ e.symm).1 rfl)).trans HSc.out.2.2.2.1
        have hM4 := (hgd.block _ (lt_of_some HMc.out) (fun e => (HRc.out.1 _ e.symm).2.1 rfl)).trans HMc.out
        have hN4 := (hgd.block _ (lt_of_some HNc.out) (fun e => (HRc.out.1 _ e.symm).2.2 rfl)).trans HNc.out
        go_roundw
        case rel => exact ⟨9, xs ++ [itoaB p2], by omega, rfl, by rw [hxs]; rfl, ⟨ho⟩, ⟨⟨HEw.out.below hbd, Kd.C_below HRw.out hbd, SX_mk hbd hh4⟩⟩, ⟨hM4⟩, ⟨hN4⟩⟩
        case measure => simp [intOf]
      · obtain ⟨s1, s2, s3, s4, k0, k1, k2, k3, k4, k5, k6, k7, k8, k9, k10, k11, k12, k13⟩ := HS.out
        have ug := map_miss wr 73 78 m8 clk8 es8 9 (.pointer none) Tryz.underlying73 (Tryz.zeroValue78 wr) HM.out (FM_none HF8.out 9 rfl)
        obtain ⟨ix, hfind⟩ := FM_some HF9.out 9 (.pointer (some ⟨w.heap.size, 12, none⟩)) rfl
        have uh := map_get wr 76 81 m9 clk9 es9 9 _ ix Tryz.underlying76 HN.out hfind
        go_wp2_with (first | rw [ug] | rw [uh])
        (with_reducible refine (strconv_Itoa_28.calls p3 (itoaB p3) _ HS.out.1 (itoa_f _ HI.out.2.2.2.2.2.2.2)).mono ?_)
        rintro r wc ⟨rfl, hbc⟩
        have HSc := Aside0.mk (SY_call HS.out hbc)
        have HRc := Aside0.mk (Kd.R_below HR.out hbc)
        have HMc := Aside0.mk (blk_below HM.out hbc)
        have HNc := Aside0.mk (blk_below HN.out hbc)
        clear HS HR HM HN s1 s2 s3 s4 k0 k1 k2 k3 k4 k5 k6 k7 k8 k9 k10 k11 k12 k13 ug uh hbc
        go_wp2_with (at_builtin; refine Kd.R_append Kd.string (w0 := w) w.heap.size rfl (.tmp 42) (.tmp 49) 52 9 (.string ⟨#[]⟩) 16 rfl Tryz.underlying52 info9 rfl (by decide) (by omega) u5 xs (itoaB p3) [.string (itoaB p3)] (fun k => k ≠ w.heap.size ∧ k ≠ m8 ∧ k ≠ m9) (fun _ => False) rfl rfl rfl (fun _ hk => hk.elim) (fun i hi => ⟨by have := lt_of_some HSc.out.2.2.2.1; omega, by have := lt_of_some HMc.out; omega, by have := lt_of_some HNc.out; omega⟩) HRc.out HSc.out.2.2.1 HSc.out.2.2.1.size (by rw [hxs]; simp [nodeN]) ?_; intro v1 wd ho hbd hgd hat)
        have hh4 := (hgd.block _ (lt_of_some HSc.out.2.2.2.1) (fun e => (HRc.out.1 _ e.symm).1 rfl)).trans HSc.out.2.2.2.1
        have hM4 := (hgd.block _ (lt_of_some HMc.out) (fun e => (HRc.out.1 _ e.symm).2.1 rfl)).trans HMc.out
        have hN4 := (hgd.block _ (lt_of_some HNc.out) (fun e => (HRc.out.1 _ e.symm).2.2 rfl)).trans HNc.out
        go_roundw
        case rel => exact ⟨10, xs ++ [itoaB p3], by omega, rfl, by rw [hxs]; rfl, ⟨ho⟩, ⟨⟨HEw.out.below hbd, Kd.C_below HRw.out hbd, SX_mk hbd hh4⟩⟩, ⟨hM4⟩, ⟨hN4⟩⟩
        case measure => simp [intOf]
      · obtain ⟨s1, s2, s3, s4, k0, k1, k2, k3, k4, k5, k6, k7, k8, k9, k10, k11, k12, k13⟩ := HS.out
        obtain ⟨ix, hfind⟩ := FM_some HF8.out 10 (.pointer (some ⟨w.heap.size, 13, none⟩)) rfl
        have ug := map_get wr 73 78 m8 clk8 es8 10 _ ix Tryz.underlying73 HM.out hfind
        go_wp2_with (first | rw [ug])
        (with_reducible refine (script_bit.calls p4 (bitI p4) _ (bit_f p4)).mono ?_)
        rintro r wb ⟨rfl, hdb⟩
        have HSb := Aside0.mk (SY_call HS.out hdb.below)
        have HRb := Aside0.mk (Kd.R_below HR.out hdb.below)
        have HMb := Aside0.mk (blk_below HM.out hdb.below)
        have HNb := Aside0.mk (blk_below HN.out hdb.below)
        clear HS HR HM HN s1 s2 s3 s4 k0 k1 k2 k3 k4 k5 k6 k7 k8 k9 k10 k11 k12 k13 ug hdb
        go_wp2_with (fail)
        (with_reducible refine (strconv_Itoa_28.calls (bitI p4) (itoaB (bitI p4)) _ HSb.out.1 (itoa_f _ (bit_i64 p4))).mono ?_)
        rintro r wc ⟨rfl, hbc⟩
        have HSc := Aside0.mk (SY_call HSb.out hbc)
        have HRc := Aside0.mk (Kd.R_below HRb.out hbc)
        have HMc := Aside0.mk (blk_below HMb.out hbc)
        have HNc := Aside0.mk (blk_below HNb.out hbc)
        clear HSb HRb HMb HNb hbc
        go_wp2_with (at_builtin; refine Kd.R_append Kd.string (w0 := w) w.heap.size rfl (.tmp 34) (.tmp 40) 52 9 (.string ⟨#[]⟩) 16 rfl Tryz.underlying52 info9 rfl (by decide) (by omega) u5 xs (itoaB (bitI p4)) [.string (itoaB (bitI p4))] (fun k => k ≠ w.heap.size ∧ k ≠ m8 ∧ k ≠ m9) (fun _ => False) rfl rfl rfl (fun _ hk => hk.elim) (fun i hi => ⟨by have := lt_of_some HSc.out.2.2.2.1; omega, by have := lt_of_some HMc.out; omega, by have := lt_of_some HNc.out; omega⟩) HRc.out HSc.out.2.2.1 HSc.out.2.2.1.size (by rw [hxs]; simp [nodeN]) ?_; intro v1 wd ho hbd hgd hat)
        have hh4 := (hgd.block _ (lt_of_some HSc.out.2.2.2.1) (fun e => (HRc.out.1 _ e.symm).1 rfl)).trans HSc.out.2.2.2.1
        have hM4 := (hgd.block _ (lt_of_some HMc.out) (fun e => (HRc.out.1 _ e.symm).2.1 rfl)).trans HMc.out
        have hN4 := (hgd.block _ (lt_of_some HNc.out) (fun e => (HRc.out.1 _ e.symm).2.2 rfl)).trans HNc.out
        go_roundw
        case rel => exact ⟨11, xs ++ [itoaB (bitI p4)], by omega, rfl, by rw [hxs]; rfl, ⟨ho⟩, ⟨⟨HEw.out.below hbd, Kd.C_below HRw.out hbd, SX_mk hbd hh4⟩⟩, ⟨hM4⟩, ⟨hN4⟩⟩
        case measure => simp [intOf]
    · obtain rfl : i = 11 := by omega
      obtain ⟨A6, c6, rfl, hc6, hC6⟩ := Kd.R_reads HR.out
      have HJ := Aside0.mk (strings_Join.calls A6 c6 xs ⟨#[32]⟩ rj wr hC6 hc6 (by rw [hxs]; exact hj))
      clear hxs
      go_wp2_with (fail)
      (with_reducible refine HJ.out.mono ?_)
      rintro r wj ⟨rfl, hbj⟩
      have HSj := Aside0.mk (SY_call HS.out hbj)
      go_wp2_with (fail)
      go_ret
      exact ⟨rfl, HSj.out.2.2.1⟩
end Go.Proofs.YtndgaeldndgioaaGreatDoor.QAll
end

section
/- script.config, walked by hand: the node of fourteen words, whatever they are. -/
set_option linter.unusedVariables false
set_option linter.unusedSimpArgs false
namespace Go.Proofs.YtndgaeldndgioaaGreatDoor.QAll
open Go.RowKit Go.Proofs.YtndgaeldndgioaaGreatDoorW.PrintWords Go.Proofs.YtndgaeldndgioaaGreatDoorW.PrintLast Go.Proofs.YtndgaeldndgioaaGreatDoorW.PrintMore
/-- The number that strconv.Atoi tells of a text, whether or not it is one. -/
def atoiN (s : ByteArray) : Int := match Lib.atoiAll s.data.toList with
  | .ok v => v
  | .range => Lib.atoiSat s.data.toList
  | _ => 0
theorem atoi_n (s : ByteArray) (hs : s.size ≤ 1000000) (w : World) (hE : EnvW w) :
    Calls Tryz.prog 69 #[.string s] w fun e w' => (∃ u, e = .returned (.tuple #[.int .i64 (atoiN s), u])) ∧ Below w.heap.size w w' := by
  by_cases h : ∃ v, Lib.atoiAll s.data.toList = .ok v
  · obtain ⟨v, hv⟩ := h
    refine (Tryz.strconv_Atoi_ok s (by omega) v hv w).mono ?_
    rintro e w' ⟨rfl, h⟩
    refine ⟨⟨_, by unfold atoiN; rw [hv]⟩, ?_⟩
    rcases h with rfl | ⟨t, rfl⟩
    · exact Below.refl _ _
    · exact bytes_below (Below.refl _ _) (Nat.le_refl _) _ _
  · have h1 : ∀ v, Lib.atoiAll s.data.toList ≠ .ok v := fun v e => h ⟨v, e⟩
    by_cases h2 : Lib.atoiAll s.data.toList = .range
    · obtain ⟨ev, he1, he2⟩ := hE.rng
      refine (Tryz.strconv_Atoi_range s (by omega) h2 ev w he1 he2).mono ?_
      rintro e w' ⟨N, rfl, _, _, hb⟩
      exact ⟨⟨.iface 212 (.pointer (some ⟨N, 0, none⟩)), by unfold atoiN; rw [h2]⟩, hb⟩
    · obtain ⟨ev, he1, he2⟩ := hE.syn
      refine (Tryz.strconv_Atoi_bad s (by omega) h1 h2 ev w he1 he2).mono ?_
      rintro e w' ⟨N, rfl, _, _, hb⟩
      refine ⟨⟨.iface 212 (.pointer (some ⟨N, 0, none⟩)), ?_⟩, hb⟩
      unfold atoiN
      split
      · rename_i v hv
        exact absurd hv (h1 v)
      · rename_i hv
        exact absurd hv h2
      · rfl
theorem atoiN_i64 (s : ByteArray) : I64 (atoiN s) := by
  unfold atoiN
  split
  · rename_i v hv
    exact atoi_bounds hv
  · exact Lib.atoiSat_bounds _
  · unfold I64; omega
/-- A node as script.config tells it. -/
structure Cfg where
  a0 : ByteArray
  a1 : Int
  l1 : List S37
  b0 : Bool
  b1 : Bool
  b2 : Int
  b3 : Int
  b4 : Int
  b5 : Int
  p0 : Int
  p1 : Int
  p2 : Int
  p3 : Int
  p4 : Bool
def cfgC (c : Cfg) (v2 : Value) : Array Value := #[.string c.a0, .int .i64 c.a1, v2, .bool c.b0, .bool c.b1, .int .i64 c.b2, .int .i64 c.b3, .int .i64 c.b4, .int .i64 c.b5, .int .i64 c.p0, .int .i64 c.p1, .int .i64 c.p2, .int .i64 c.p3, .bool c.p4]
def cfgV (c : Cfg) (A : Option Addr) (n : Nat) : Value := .agg (cfgC c (.slice A c.l1.length n))
/-- The i-th number set. -/
def cfgN (i : Nat) (n : Int) (c : Cfg) : Cfg := match i with
  | 0 => { c with b0 := decide (n = 1) }
  | 1 => { c with b1 := decide (n = 1) }
  | 2 => { c with b2 := n }
  | 3 => { c with b3 := n }
  | 4 => { c with b4 := n }
  | 5 => { c with b5 := n }
  | 6 => { c with p0 := n }
  | 7 => { c with p1 := n }
  | 8 => { c with p2 := n }
  | 9 => { c with p3 := n }
  | 10 => { c with p4 := decide (n = 1) }
  | _ => c
def cfgL : List ByteArray → Nat → Cfg → Cfg
  | [], _, c => c
  | s :: l, i, c => cfgL l (i + 1) (cfgN i (atoiN s) c)
theorem cfgL_snoc : ∀ (l : List ByteArray) (s : ByteArray) (i : Nat) (c : Cfg), cfgL (l ++ [s]) i c = cfgN (i + l.length) (atoiN s) (cfgL l i c)
  | [], s, i, c => rfl
  | x :: l, s, i, c => by
    show cfgL (l ++ [s]) (i + 1) _ = _
    rw [cfgL_snoc l s (i + 1)]
    show cfgN (i + 1 + l.length) _ _ = cfgN (i + (l.length + 1)) _ _
    rw [show i + 1 + l.length = i + (l.length + 1) by omega]
    rfl
theorem cfgN_l1 (i : Nat) (n : Int) (c : Cfg) : (cfgN i n c).l1 = c.l1 := by
  unfold cfgN
  split <;> rfl
theorem cfgL_l1 : ∀ (l : List ByteArray) (i : Nat) (c : Cfg), (cfgL l i c).l1 = c.l1
  | [], _, _ => rfl
  | s :: l, i, c => by
    show (cfgL l (i + 1) _).l1 = _
    rw [cfgL_l1 l, cfgN_l1]
def callP (s : ByteArray) : S37 := ⟨(parseS s).1, (parseS s).2.1⟩
def aliL (s : ByteArray) : List S37 := if s = ⟨#[45]⟩ then [] else (splitS s ⟨#[44]⟩).map callP
def cfg0 (w1 w2 : ByteArray) : Cfg := ⟨(callP w1).f0, (callP w1).f1, aliL w2, false, false, 0, 0, 0, 0, 0, 0, 0, 0, false⟩
def cfgOf (w1 w2 : ByteArray) (ns : List ByteArray) : Cfg := cfgL ns 0 (cfg0 w1 w2)
def zC : Array Value := #[.string ⟨#[]⟩, .int .i64 0, .slice none 0 0, .bool false, .bool false, .int .i64 0, .int .i64 0, .int .i64 0, .int .i64 0, .int .i64 0, .int .i64 0, .int .i64 0, .int .i64 0, .bool false]
theorem set14_0 {W : World} {g : Nat} {v0 v1 v2 v3 v4 v5 v6 v7 v8 v9 v10 v11 v12 v13 x : Value} {t : TypeId} (h : W.heap[g]? = some (.cells #[v0, v1, v2, v3, v4, v5, v6, v7, v8, v9, v10, v11, v12, v13] t (0, 0))) : (W.setCell ⟨g, 0, none⟩ x).heap[g]? = some (.cells #[x, v1, v2, v3, v4, v5, v6, v7, v8, v9, v10, v11, v12, v13] t (0, 0)) := by
  simp [World.setCell, Array.getElem?_modify, h]
theorem set14_1 {W : World} {g : Nat} {v0 v1 v2 v3 v4 v5 v6 v7 v8 v9 v10 v11 v12 v13 x : Value} {t : TypeId} (h : W.heap[g]? = some (.cells #[v0, v1, v2, v3, v4, v5, v6, v7, v8, v9, v10, v11, v12, v13] t (0, 0))) : (W.setCell ⟨g, 1, none⟩ x).heap[g]? = some (.cells #[v0, x, v2, v3, v4, v5, v6, v7, v8, v9, v10, v11, v12, v13] t (0, 0)) := by
  simp [World.setCell, Array.getElem?_modify, h]
theorem set14_2 {W : World} {g : Nat} {v0 v1 v2 v3 v4 v5 v6 v7 v8 v9 v10 v11 v12 v13 x : Value} {t : TypeId} (h : W.heap[g]? = some (.cells #[v0, v1, v2, v3, v4, v5, v6, v7, v8, v9, v10, v11, v12, v13] t (0, 0))) : (W.setCell ⟨g, 2, none⟩ x).heap[g]? = some (.cells #[v0, v1, x, v3, v4, v5, v6, v7, v8, v9, v10, v11, v12, v13] t (0, 0)) := by
  simp [World.setCell, Array.getElem?_modify, h]
theorem set14_3 {W : World} {g : Nat} {v0 v1 v2 v3 v4 v5 v6 v7 v8 v9 v10 v11 v12 v13 x : Value} {t : TypeId} (h : W.heap[g]? = some (.cells #[v0, v1, v2, v3, v4, v5, v6, v7, v8, v9, v10, v11, v12, v13] t (0, 0))) : (W.setCell ⟨g, 3, none⟩ x).heap[g]? = some (.cells #[v0, v1, v2, x, v4, v5, v6, v7, v8, v9, v10, v11, v12, v13] t (0, 0)) := by
  simp [World.setCell, Array.getElem?_modify, h]
theorem set14_4 {W : World} {g : Nat} {v0 v1 v2 v3 v4 v5 v6 v7 v8 v9 v10 v11 v12 v13 x : Value} {t : TypeId} (h : W.heap[g]? = some (.cells #[v0, v1, v2, v3, v4, v5, v6, v7, v8, v9, v10, v11, v12, v13] t (0, 0))) : (W.setCell ⟨g, 4, none⟩ x).heap[g]? = some (.cells #[v0, v1, v2, v3, x, v5, v6, v7, v8, v9, v10, v11, v12, v13] t (0, 0)) := by
  simp [World.setCell, Array.getElem?_modify, h]
theorem set14_5 {W : World} {g : Nat} {v0 v1 v2 v3 v4 v5 v6 v7 v8 v9 v10 v11 v12 v13 x : Value} {t : TypeId} (h : W.heap[g]? = some (.cells #[v0, v1, v2, v3, v4, v5, v6, v7, v8, v9, v10, v11, v12, v13] t (0, 0))) : (W.setCell ⟨g, 5, none⟩ x).heap[g]? = some (.cells #[v0, v1, v2, v3, v4, x, v6, v7, v8, v9, v10, v11, v12, v13] t (0, 0)) := by
  simp [World.setCell, Array.getElem?_modify, h]
theorem set14_6 {W : World} {g : Nat} {v0 v1 v2 v3 v4 v5 v6 v7 v8 v9 v10 v11 v12 v13 x : Value} {t : TypeId} (h : W.heap[g]? = some (.cells #[v0, v1, v2, v3, v4, v5, v6, v7, v8, v9, v10, v11, v12, v13] t (0, 0))) : (W.setCell ⟨g, 6, none⟩ x).heap[g]? = some (.cells #[v0, v1, v2, v3, v4, v5, x, v7, v8, v9, v10, v11, v12, v13] t (0, 0)) := by
  simp [World.setCell, Array.getElem?_modify, h]
theorem set14_7 {W : World} {g : Nat} {v0 v1 v2 v3 v4 v5 v6 v7 v8 v9 v10 v11 v12 v13 x : Value} {t : TypeId} (h : W.heap[g]? = some (.cells #[v0, v1, v2, v3, v4, v5, v6, v7, v8, v9, v10, v11, v12, v13] t (0, 0))) : (W.setCell ⟨g, 7, none⟩ x).heap[g]? = some (.cells #[v0, v1, v2, v3, v4, v5, v6, x, v8, v9, v10, v11, v12, v13] t (0, 0)) := by
  simp [World.setCell, Array.getElem?_modify, h]
theorem set14_8 {W : World} {g : Nat} {v0 v1 v2 v3 v4 v5 v6 v7 v8 v9 v10 v11 v12 v13 x : Value} {t : TypeId} (h : W.heap[g]? = some (.cells #[v0, v1, v2, v3, v4, v5, v6, v7, v8, v9, v10, v11, v12, v13] t (0, 0))) : (W.setCell ⟨g, 8, none⟩ x).heap[g]? = some (.cells #[v0, v1, v2, v3, v4, v5, v6, v7, x, v9, v10, v11, v12, v13] t (0, 0)) := by
  simp [World.setCell, Array.getElem?_modify, h]
theorem set14_9 {W : World} {g : Nat} {v0 v1 v2 v3 v4 v5 v6 v7 v8 v9 v10 v11 v12 v13 x : Value} {t : TypeId} (h : W.heap[g]? = some (.cells #[v0, v1, v2, v3, v4, v5, v6, v7, v8, v9, v10, v11, v12, v13] t (0, 0))) : (W.setCell ⟨g, 9, none⟩ x).heap[g]? = some (.cells #[v0, v1, v2, v3, v4, v5, v6, v7, v8, x, v10, v11, v12, v13] t (0, 0)) := by
  simp [World.setCell, Array.getElem?_modify, h]
theorem set14_10 {W : World} {g : Nat} {v0 v1 v2 v3 v4 v5 v6 v7 v8 v9 v10 v11 v12 v13 x : Value} {t : TypeId} (h : W.heap[g]? = some (.cells #[v0, v1, v2, v3, v4, v5, v6, v7, v8, v9, v10, v11, v12, v13] t (0, 0))) : (W.setCell ⟨g, 10, none⟩ x).heap[g]? = some (.cells #[v0, v1, v2, v3, v4, v5, v6, v7, v8, v9, x, v11, v12, v13] t (0, 0)) := by
  simp [World.setCell, Array.getElem?_modify, h]
theorem set14_11 {W : World} {g : Nat} {v0 v1 v2 v3 v4 v5 v6 v7 v8 v9 v10 v11 v12 v13 x : Value} {t : TypeId} (h : W.heap[g]? = some (.cells #[v0, v1, v2, v3, v4, v5, v6, v7, v8, v9, v10, v11, v12, v13] t (0, 0))) : (W.setCell ⟨g, 11, none⟩ x).heap[g]? = some (.cells #[v0, v1, v2, v3, v4, v5, v6, v7, v8, v9, v10, x, v12, v13] t (0, 0)) := by
  simp [World.setCell, Array.getElem?_modify, h]
theorem set14_12 {W : World} {g : Nat} {v0 v1 v2 v3 v4 v5 v6 v7 v8 v9 v10 v11 v12 v13 x : Value} {t : TypeId} (h : W.heap[g]? = some (.cells #[v0, v1, v2, v3, v4, v5, v6, v7, v8, v9, v10, v11, v12, v13] t (0, 0))) : (W.setCell ⟨g, 12, none⟩ x).heap[g]? = some (.cells #[v0, v1, v2, v3, v4, v5, v6, v7, v8, v9, v10, v11, x, v13] t (0, 0)) := by
  simp [World.setCell, Array.getElem?_modify, h]
theorem set14_13 {W : World} {g : Nat} {v0 v1 v2 v3 v4 v5 v6 v7 v8 v9 v10 v11 v12 v13 x : Value} {t : TypeId} (h : W.heap[g]? = some (.cells #[v0, v1, v2, v3, v4, v5, v6, v7, v8, v9, v10, v11, v12, v13] t (0, 0))) : (W.setCell ⟨g, 13, none⟩ x).heap[g]? = some (.cells #[v0, v1, v2, v3, v4, v5, v6, v7, v8, v9, v10, v11, v12, x] t (0, 0)) := by
  simp [World.setCell, Array.getElem?_modify, h]
structure QD (w0 : World) (ad : Addr) (l : List ByteArray) (cs : Array Value) (W : World) : Prop where
  e : EnvW W
  l : Kd.C Kd.string W (some ad) 14 l
  b : Below w0.heap.size w0 W
  r : W.heap[w0.heap.size]? = some (.cells zC 44 (0, 0))
  h : W.heap[w0.heap.size + 1]? = some (.cells cs 44 (0, 0))
theorem QD_call {w0 W W' : World} {ad : Addr} {l : List ByteArray} {cs : Array Value} (h : QD w0 ad l cs W) (hb : Below W.heap.size W W') : QD w0 ad l cs W' :=
  ⟨h.e.below hb, Kd.C_below h.l hb, below_then h.b h.b.size hb, blk_below h.r hb, blk_below h.h hb⟩
theorem QD_set {w0 W : World} {ad : Addr} {l : List ByteArray} {cs cs' : Array Value} (hl : Kd.C Kd.string w0 (some ad) 14 l) (he : EnvW w0) (h : QD w0 ad l cs W) (k : Nat) (x : Value) (hs : (W.setCell ⟨w0.heap.size + 1, k, none⟩ x).heap[w0.heap.size + 1]? = some (.cells cs' 44 (0, 0))) : QD w0 ad l cs' (W.setCell ⟨w0.heap.size + 1, k, none⟩ x) := by
  have hb : Below w0.heap.size w0 (W.setCell ⟨w0.heap.size + 1, k, none⟩ x) := h.b.setCell (p := ⟨w0.heap.size + 1, k, none⟩) (Nat.le_succ _) x
  exact ⟨he.below hb, Kd.C_below hl hb, hb, set_ne h.r (by omega) k x, hs⟩
theorem QD_at {w0 W : World} {ad : Addr} {l : List ByteArray} {cs : Array Value} (h : QD w0 ad l cs W) (i : Nat) (h0 : 0 < i) (hi : i < 14) : W.cell? ⟨ad.block, ad.off + i, none⟩ = some (.string (l.getD i ByteArray.empty)) := by
  obtain ⟨ad', he, hx⟩ := Kd.at_string h.l (i : Int) (by omega) (by omega)
  obtain rfl := Option.some.inj he
  rw [Int.toNat_natCast, Addr.add, if_neg (by omega)] at hx
  exact hx
theorem set14_all {W : World} {g : Nat} {v0 v1 v2 v3 v4 v5 v6 v7 v8 v9 v10 v11 v12 v13 x0 x1 x2 x3 x4 x5 x6 x7 x8 x9 x10 x11 x12 x13 : Value} {t : TypeId} (h : W.heap[g]? = some (.cells #[v0, v1, v2, v3, v4, v5, v6, v7, v8, v9, v10, v11, v12, v13] t (0, 0))) : ((((((((((((((W.setCell ⟨g, 0, none⟩ x0).setCell ⟨g, 1, none⟩ x1).setCell ⟨g, 2, none⟩ x2).setCell ⟨g, 3, none⟩ x3).setCell ⟨g, 4, none⟩ x4).setCell ⟨g, 5, none⟩ x5).setCell ⟨g, 6, none⟩ x6).setCell ⟨g, 7, none⟩ x7).setCell ⟨g, 8, none⟩ x8).setCell ⟨g, 9, none⟩ x9).setCell ⟨g, 10, none⟩ x10).setCell ⟨g, 11, none⟩ x11).setCell ⟨g, 12, none⟩ x12).setCell ⟨g, 13, none⟩ x13).heap[g]? = some (.cells #[x0, x1, x2, x3, x4, x5, x6, x7, x8, x9, x10, x11, x12, x13] t (0, 0)) := by
  simp [World.setCell, Array.getElem?_modify, h]
theorem set14_far {W : World} {g i : Nat} (hne : i ≠ g) (x0 x1 x2 x3 x4 x5 x6 x7 x8 x9 x10 x11 x12 x13 : Value) : ((((((((((((((W.setCell ⟨g, 0, none⟩ x0).setCell ⟨g, 1, none⟩ x1).setCell ⟨g, 2, none⟩ x2).setCell ⟨g, 3, none⟩ x3).setCell ⟨g, 4, none⟩ x4).setCell ⟨g, 5, none⟩ x5).setCell ⟨g, 6, none⟩ x6).setCell ⟨g, 7, none⟩ x7).setCell ⟨g, 8, none⟩ x8).setCell ⟨g, 9, none⟩ x9).setCell ⟨g, 10, none⟩ x10).setCell ⟨g, 11, none⟩ x11).setCell ⟨g, 12, none⟩ x12).setCell ⟨g, 13, none⟩ x13).heap[i]? = W.heap[i]? := by
  simp [World.setCell, Array.getElem?_modify, Ne.symm hne]
theorem set14_below {B : Nat} {w W : World} {g : Nat} (hb : Below B w W) (hB : B ≤ g) (x0 x1 x2 x3 x4 x5 x6 x7 x8 x9 x10 x11 x12 x13 : Value) : Below B w ((((((((((((((W.setCell ⟨g, 0, none⟩ x0).setCell ⟨g, 1, none⟩ x1).setCell ⟨g, 2, none⟩ x2).setCell ⟨g, 3, none⟩ x3).setCell ⟨g, 4, none⟩ x4).setCell ⟨g, 5, none⟩ x5).setCell ⟨g, 6, none⟩ x6).setCell ⟨g, 7, none⟩ x7).setCell ⟨g, 8, none⟩ x8).setCell ⟨g, 9, none⟩ x9).setCell ⟨g, 10, none⟩ x10).setCell ⟨g, 11, none⟩ x11).setCell ⟨g, 12, none⟩ x12).setCell ⟨g, 13, none⟩ x13) :=
  (((((((((((((hb.setCell (p := ⟨g, 0, none⟩) hB x0).setCell (p := ⟨g, 1, none⟩) hB x1).setCell (p := ⟨g, 2, none⟩) hB x2).setCell (p := ⟨g, 3, none⟩) hB x3).setCell (p := ⟨g, 4, none⟩) hB x4).setCell (p := ⟨g, 5, none⟩) hB x5).setCell (p := ⟨g, 6, none⟩) hB x6).setCell (p := ⟨g, 7, none⟩) hB x7).setCell (p := ⟨g, 8, none⟩) hB x8).setCell (p := ⟨g, 9, none⟩) hB x9).setCell (p := ⟨g, 10, none⟩) hB x10).setCell (p := ⟨g, 11, none⟩) hB x11).setCell (p := ⟨g, 12, none⟩) hB x12).setCell (p := ⟨g, 13, none⟩) hB x13
set_option maxHeartbeats 8000000 in
set_option maxRecDepth 100000 in
theorem sconf_calls (L : List ByteArray) (x1 x2 : ByteArray) (ns : List ByteArray) (ad : Addr) (c : Nat) (w : World) (hE : EnvW w) (hr : Kd.C Kd.string w (some ad) 14 L) (hc : 14 ≤ c) (hx1 : L.getD 1 ByteArray.empty = x1) (hx2 : L.getD 2 ByteArray.empty = x2) (hns : L.drop 3 = ns) (hs : ∀ s ∈ L, s.size ≤ 1000) :
    Calls Tryz.prog 43 #[.slice (some ad) 14 c] w fun e w' => ∃ A2 c2, e = .returned (cfgV (cfgOf x1 x2 ns) A2 c2) ∧ Kd.R k37 37 w' w.heap.size (fun _ => True) (.slice A2 (cfgOf x1 x2 ns).l1.length c2) (cfgOf x1 x2 ns).l1 ∧ Below w.heap.size w w' := by
  have HE := Aside0.mk hE
  have HR := Aside0.mk hr
  have HS := Aside0.mk hs
  have h14 : L.length = 14 := by have := hr.1; omega
  have hm1 : x1.size ≤ 1000 := by
    rw [← hx1, List.getD_eq_getElem?_getD, List.getElem?_eq_getElem (by omega)]
    exact hs _ (List.getElem_mem _)
  have hm2 : x2.size ≤ 1000 := by
    rw [← hx2, List.getD_eq_getElem?_getD, List.getElem?_eq_getElem (by omega)]
    exact hs _ (List.getElem_mem _)
  have HQ : Aside0 (QD w ad L zC ((w.alloc (.cells zC 44 (0, 0))).alloc (.cells zC 44 (0, 0)))) := by
    have hb : Below w.heap.size w ((w.alloc (.cells zC 44 (0, 0))).alloc (.cells zC 44 (0, 0))) := ((Below.refl _ _).alloc (Nat.le_refl _) _).alloc (by simp) _
    refine ⟨hE.below hb, Kd.C_below hr hb, hb, (Below.heap_alloc _ _ _ (by simp)).trans (heap_alloc_new _ _), ?_⟩
    have := heap_alloc_new (w.alloc (.cells zC 44 (0, 0))) (.cells zC 44 (0, 0))
    rw [World.size_alloc] at this
    exact this
  unfold zC at HQ
  have e1 := QD_at HQ.out 1 (by omega) (by omega)
  rw [hx1] at e1
  clear hE hr hs
  go_enter Tryz.func43, Tryz.ntmps43
  go_wp2_with (fail)
  (with_reducible refine (call_Parse.calls x1 (parseS x1).1 (parseS x1).2.1 (parseS x1).2.2 _ HQ.out.e (by unfold call_Parse.f; rw [if_pos (by omega)])).mono ?_)
  rintro r w3 ⟨rfl, hb3⟩
  have HQ3 := Aside0.mk (QD_call HQ.out hb3)
  clear HQ hb3 e1
  obtain ⟨⟨k0, k1, k2, k3, k4, k5, k6⟩, k7, k8, k9, k10, k11, k12, k13⟩ := cells14 HQ3.out.h
  have f0 := Lib.frozen_of_heap HQ3.out.h 0
  have f1 := Lib.frozen_of_heap HQ3.out.h 1
  have HQ4 := Aside0.mk (QD_set HR.out HE.out HQ3.out 0 (.string (parseS x1).1) (set14_0 HQ3.out.h))
  have HQ5 := Aside0.mk (QD_set HR.out HE.out HQ4.out 1 (.int .i64 (parseS x1).2.1) (set14_1 HQ4.out.h))
  clear HQ4
  obtain ⟨w5, hw5⟩ : ∃ w5, (w3.setCell ⟨w.heap.size + 1, 0, none⟩ (.string (parseS x1).1)).setCell ⟨w.heap.size + 1, 1, none⟩ (.int .i64 (parseS x1).2.1) = w5 := ⟨_, rfl⟩
  rw [hw5] at HQ5
  have e2 := QD_at HQ5.out 2 (by omega) (by omega)
  rw [hx2] at e2
  go_upto_if 26 with (fail)
  go_cut [] from 4 (fun wx => ∃ v2, Aside0 (Kd.R k37 37 wx w.heap.size (fun k => w.heap.size + 2 ≤ k) v2 (aliL x2)) ∧ Aside0 (QD w ad L #[.string (parseS x1).1, .int .i64 (parseS x1).2.1, v2, .bool false, .bool false, .int .i64 0, .int .i64 0, .int .i64 0, .int .i64 0, .int .i64 0, .int .i64 0, .int .i64 0, .int .i64 0, .bool false] wx))
  case first =>
    by_cases hx : x2 = ⟨#[45]⟩
    · have hb : (!(x2.toList == [45])) = false := by rw [hx, Go.ByteArray.toList_eq]; rfl
      have HX := Aside0.mk hx
      clear hx
      rw [hb]
      go_wp2_with (fail)
      go_meet
      refine ⟨.slice none 0 0, ⟨?_⟩, HQ5⟩
      unfold aliL
      rw [if_pos HX.out]
      exact Kd.R_nil _ _ _ _ _
    · have hb : (!(x2.toList == [45])) = true := by
        rw [Bool.not_eq_true', beq_eq_false_iff_ne]
        intro he
        apply hx
        rw [Go.ByteArray.toList_eq] at he
        obtain ⟨⟨q⟩⟩ := x2
        simp at he
        rw [he]
      rw [hb]
      go_wp2_with (fail)
      (with_reducible refine (strings_Split.calls x2 ⟨#[44]⟩ (splitS x2 ⟨#[44]⟩) _ HQ5.out.e (by unfold strings_Split.f; rw [if_pos ⟨by decide, by omega⟩])).mono ?_)
      rintro r w6 ⟨v6, rfl, hR6, hb6⟩
      have HAl : Aside0 (aliL x2 = (splitS x2 ⟨#[44]⟩).map callP) := ⟨by unfold aliL; rw [if_neg hx]⟩
      have HQ6 := Aside0.mk (QD_call HQ5.out hb6)
      have hB5 : w.heap.size + 1 < w5.heap.size := lt_of_some HQ5.out.h
      have HV6 : Aside0 (Kd.V Kd.string 9 w6 0 (fun k => w.heap.size + 2 ≤ k ∧ k < w6.heap.size) v6 (splitS x2 ⟨#[44]⟩)) := ⟨Kd.V_mono (Kd.R_V (Kd.R_bound hR6)) (fun k hk => ⟨by have := hk.2.1; omega, hk.2.2.1⟩)⟩
      obtain ⟨A6, c6, rfl, hc6, _⟩ := Kd.R_reads hR6
      have hB6 : w.heap.size + 2 ≤ w6.heap.size := by have := hb6.size; omega
      have HZ6 := Aside0.mk hm2
      have hsz : ∀ s ∈ splitS x2 ⟨#[44]⟩, s.size ≤ 1000 := fun s h => Nat.le_trans ((Pure.split_sizes x2 44).2.2 s h) hm2
      have hlen : (splitS x2 ⟨#[44]⟩).length ≤ 2000 := by have := (Pure.split_sizes x2 44).2.1; omega
      have HSz := Aside0.mk hsz
      clear hR6 hb6 hsz
      generalize splitS x2 ⟨#[44]⟩ = ws at HAl HV6 hc6 HSz hlen ⊢
      obtain ⟨B, hB⟩ : ∃ B, w6.heap.size = B := ⟨_, rfl⟩
      rw [hB] at HV6 hB6
      have HN : Aside0 (Kd.R k37 37 w6 w.heap.size (fun k => B ≤ k) (.slice none 0 0) ((ws.take 0).map callP)) := ⟨Kd.R_nil _ _ _ _ _⟩
      have HBs := Aside0.mk (show B ≤ w6.heap.size by omega)
      clear HQ5 HQ3 k0 k1 k2 k3 k4 k5 k6 k7 k8 k9 k10 k11 k12 k13 f0 f1 hw5 e2 hb hB
      go_wp2_with (fail)
      go_loopw [32] (fun v32 wr => ∃ (i : Nat) (v2 : Value), i ≤ ws.length ∧ v32 = .int .i64 i ∧ Aside0 (Kd.R k37 37 wr w.heap.size (fun k => B ≤ k) v2 ((ws.take i).map callP)) ∧ Aside0 (QD w ad L #[.string (parseS x1).1, .int .i64 (parseS x1).2.1, v2, .bool false, .bool false, .int .i64 0, .int .i64 0, .int .i64 0, .int .i64 0, .int .i64 0, .int .i64 0, .int .i64 0, .int .i64 0, .bool false] wr) ∧ Aside0 (Kd.V Kd.string 9 wr 0 (fun k => w.heap.size + 2 ≤ k ∧ k < B) (.slice A6 ws.length c6) ws) ∧ Aside0 (B ≤ wr.heap.size)) (fun v32 _ => ws.length - (intOf v32).toNat)
      case atStart => exact ⟨0, _, by omega, rfl, HN, HQ6, HV6, HBs⟩
      case round =>
        clear HN HQ6 HV6 HBs
        obtain ⟨i, v2, hi, rfl, HR1, HQr, HVr, HBr⟩ := hrel
        by_cases hlt : i < ws.length
        · obtain ⟨hn1, hn2, hcj⟩ := Kd.V_reads' HVr.out
          obtain ⟨ad', hA', hx⟩ := Kd.at_string hcj (i : Int) (by omega) (by omega)
          obtain rfl := hA'
          rw [Int.toNat_natCast, show rdOf ByteArray.empty ws (i : Int) = ws[i]'hlt by (unfold rdOf; rw [Int.toNat_natCast, List.getD_eq_getElem?_getD, List.getElem?_eq_getElem hlt]; rfl)] at hx
          have hsi : (ws[i]'hlt).size ≤ 1000 := HSz.out _ (List.getElem_mem hlt)
          clear hn1 hn2 hcj
          go_wp2_with (fail)
          (with_reducible refine (call_Parse.calls (ws[i]'hlt) (parseS (ws[i]'hlt)).1 (parseS (ws[i]'hlt)).2.1 (parseS (ws[i]'hlt)).2.2 _ HQr.out.e (by unfold call_Parse.f; rw [if_pos (by omega)])).mono ?_)
          rintro r w7 ⟨rfl, hb7⟩
          have hb8 : Below wr.heap.size wr (w7.alloc (.cells #[.string (parseS (ws[i]'hlt)).1, .int .i64 (parseS (ws[i]'hlt)).2.1] 37 (0, 0))) := hb7.alloc hb7.size _
          have HQ8 := Aside0.mk (QD_call HQr.out hb8)
          have HR8 := Aside0.mk (Kd.R_below HR1.out hb8)
          have HV8 := Aside0.mk (Kd.V_below HVr.out hb8)
          have HB8 := Aside0.mk (Nat.le_trans HBr.out hb8.size)
          have HG8 := Aside0.mk (heap_alloc_new w7 (.cells #[.string (parseS (ws[i]'hlt)).1, .int .i64 (parseS (ws[i]'hlt)).2.1] 37 (0, 0)))
          obtain ⟨w8, hw8⟩ : ∃ w8, w7.alloc (.cells #[.string (parseS (ws[i]'hlt)).1, .int .i64 (parseS (ws[i]'hlt)).2.1] 37 (0, 0)) = w8 := ⟨_, rfl⟩
          rw [hw8] at HQ8 HR8 HV8 HB8 HG8
          clear HQr HR1 HVr HBr hb8 hb7 hx
          obtain ⟨j0, j1, _, _⟩ := two_cell HG8.out
          obtain ⟨⟨_, _, k2, _, _, _, _⟩, _, _, _, _, _, _, _⟩ := cells14 HQ8.out.h
          have f2 := Lib.frozen_of_heap HQ8.out.h 2
          have hBg : w.heap.size + 2 ≤ B := hB6
          go_wp2_with (at_builtin; refine Kd.R_append k37 (w0 := w) w.heap.size rfl (.tmp 42) (.tmp 44) 38 37 (.agg #[(.string ⟨#[]⟩), (.int .i64 0)]) 24 rfl Tryz.underlying38 info37 rfl (by decide) (by omega) v2 ((ws.take i).map callP) (callP (ws[i]'hlt)) [.string (parseS (ws[i]'hlt)).1, .int .i64 (parseS (ws[i]'hlt)).2.1] (fun k => B ≤ k) (fun _ => False) rfl rfl (k37_mkM _ _ _ _) (fun _ hk => hk.elim) (fun k hk => Nat.le_trans HB8.out hk) HR8.out HQ8.out.b HQ8.out.b.size (by simp; omega) ?_; intro v1 wd ho hbd hgd hat; obtain ⟨A1, c1, hv1, hc1, _⟩ := Kd.R_reads ho; (have hl1 : (List.map callP (List.take i ws) ++ [callP (ws[i]'hlt)]).length = i + 1 := (by simp; omega)); rw [hl1] at hv1 hc1; subst hv1; have hhd := (hgd.block _ (lt_of_some HQ8.out.h) (fun e => by have := HR8.out.1 _ e.symm; omega)).trans HQ8.out.h; have kd2 := (cells14 hhd).1.2.2.1; have fd2 := Lib.frozen_of_heap hhd 2)
          go_roundw
          case rel =>
            have hrd := (hgd.block _ (lt_of_some HQ8.out.r) (fun e => by have := HR8.out.1 _ e.symm; omega)).trans HQ8.out.r
            have hQd : QD w ad L #[.string (parseS x1).1, .int .i64 (parseS x1).2.1, v2, .bool false, .bool false, .int .i64 0, .int .i64 0, .int .i64 0, .int .i64 0, .int .i64 0, .int .i64 0, .int .i64 0, .int .i64 0, .bool false] wd := ⟨HE.out.below hbd, Kd.C_below HR.out hbd, hbd, hrd, hhd⟩
            refine ⟨i + 1, _, by omega, rfl, ⟨?_⟩, ⟨QD_set HR.out HE.out hQd 2 _ (set14_2 hhd)⟩, ⟨?_⟩, ⟨?_⟩⟩
            · rw [List.take_succ_eq_append_getElem hlt, List.map_append, List.map_cons, List.map_nil]
              exact Kd.R_step ho (fun k hk _ => Below.heap_setCell _ _ _ _ (by have : B ≤ k := hk; show k ≠ w.heap.size + 1; omega))
            · refine Kd.V_step (Kd.V_grown HV8.out hgd (fun k hk e => by have := HR8.out.1 _ e.symm; have := hk.2; omega)) (fun k hk _ => Below.heap_setCell _ _ _ _ (by have := hk.1; show k ≠ w.heap.size + 1; omega))
            · have h9 : w8.heap.size ≤ wd.heap.size := by have := hgd.size; simpa using this
              have := HB8.out
              simp [World.setCell]
              omega
          case measure => simp [intOf]; omega
        · obtain rfl : i = ws.length := by omega
          go_wp2_with (fail)
          go_meet
          refine ⟨v2, ⟨?_⟩, HQr⟩
          rw [HAl.out]
          have h1 := HR1.out
          rw [List.take_length] at h1
          exact Kd.R_mono h1 (fun k hk => by have : B ≤ k := hk; omega)
  case rest =>
    clear HQ3 k0 k1 k2 k3 k4 k5 k6 k7 k8 k9 k10 k11 k12 k13 f0 f1 e2 HQ5 hw5
    obtain ⟨v2, HAr, HQr⟩ := hcut
    have hwc : w.heap.size + 1 < wc.heap.size := lt_of_some HQr.out.h
    go_wp2_with (fail)
    (with_reducible refine (script_flags_calls (w.heap.size + 1) _).mono ?_)
    rintro r w8 ⟨⟨m8, es8, clk8, rfl, hm8, hf8, hg8⟩, hb8⟩
    have HQ8 := Aside0.mk (QD_call HQr.out hb8)
    have HA8 := Aside0.mk (Kd.R_mono (Kd.R_bound (Kd.R_below HAr.out hb8)) (fun k hk => hk))
    have HM8 := Aside0.mk hm8
    have HF8 := Aside0.mk hf8
    clear HQr HAr hm8 hf8
    go_wp2_with (fail)
    (with_reducible refine (script_sizes_calls (w.heap.size + 1) _).mono ?_)
    rintro r w9 ⟨⟨m9, es9, clk9, rfl, hm9, hf9, hg9⟩, hb9⟩
    have HQ9 := Aside0.mk (QD_call HQ8.out hb9)
    have HM9 := Aside0.mk ((hb9.block _ (lt_of_some HM8.out)).trans HM8.out)
    have HN9 := Aside0.mk hm9
    have HF9 := Aside0.mk hf9
    have hc3 : ¬ c = 3 := by omega
    clear HQ8 HM8 hm9 hf9
    have HR9 := Aside0.mk (Kd.R_below HA8.out hb9)
    clear HA8
    go_wp2_with (fail)
    go_loopw [53] (fun v53 wr => ∃ (i : Nat) (cf : Cfg), i ≤ 11 ∧ v53 = .int .i64 i ∧ Aside0 (cfgL (ns.take i) 0 (cfg0 x1 x2) = cf) ∧ Aside0 (QD w ad L (cfgC cf v2) wr) ∧ Aside0 (Kd.R k37 37 wr w.heap.size (fun k => w.heap.size + 2 ≤ k) v2 (aliL x2)) ∧ Aside0 (wr.heap[m8]? = some (.map es8 clk8)) ∧ Aside0 (wr.heap[m9]? = some (.map es9 clk9))) (fun v53 _ => 11 - (intOf v53).toNat)
    case atStart => exact ⟨0, _, by omega, rfl, ⟨rfl⟩, HQ9, ⟨Kd.R_mono HR9.out (fun k hk => hk.1)⟩, HM9, HN9⟩
    case round =>
      clear HR9 HQ9 HM9 HN9
      obtain ⟨i, cf, hi, rfl, HC, HQr, HRr, HM, HN⟩ := hrel
      by_cases hlt : i < 11
      · have hni : ns[i]? = some (L.getD (3 + i) ByteArray.empty) := by
          rw [← hns, List.getElem?_drop, List.getD_eq_getElem?_getD, List.getElem?_eq_getElem (by omega)]
          rfl
        have hcl : cfgL (ns.take (i + 1)) 0 (cfg0 x1 x2) = cfgN i (atoiN (L.getD (3 + i) ByteArray.empty)) cf := by
          rw [List.take_add_one, hni, Option.toList_some, cfgL_snoc, HC.out, List.length_take, Nat.zero_add]
          have : ns.length = 11 := by rw [← hns, List.length_drop]; omega
          rw [Nat.min_eq_left (by omega)]
        have HCL := Aside0.mk hcl
        have hzi : (L.getD (3 + i) ByteArray.empty).size ≤ 1000 := by
          rw [List.getD_eq_getElem?_getD, List.getElem?_eq_getElem (by omega)]
          exact HS.out _ (List.getElem_mem _)
        have hxi := QD_at HQr.out (3 + i) (by omega) (by omega)
        generalize L.getD (3 + i) ByteArray.empty = xi at HCL hzi hxi
        clear hcl hni HC
        obtain ⟨a0, a1, l1, b0, b1, b2, b3, b4, b5, p0, p1, p2, p3, p4⟩ := cf
        simp only [cfgC] at HQr
        rcases (show i = 0 ∨ i = 1 ∨ i = 2 ∨ i = 3 ∨ i = 4 ∨ i = 5 ∨ i = 6 ∨ i = 7 ∨ i = 8 ∨ i = 9 ∨ i = 10 by omega) with rfl | rfl | rfl | rfl | rfl | rfl | rfl | rfl | rfl | rfl | rfl
        · go_wp2_with (fail)
          (with_reducible refine (atoi_n xi (by omega) _ HQr.out.e).mono ?_)
          rintro r wi ⟨⟨u, rfl⟩, hbi⟩
          have HQi := Aside0.mk (QD_call HQr.out hbi)
          have HRi := Aside0.mk (Kd.R_below HRr.out hbi)
          have HMi := Aside0.mk (blk_below HM.out hbi)
          have HNi := Aside0.mk (blk_below HN.out hbi)
          obtain ⟨ix, hfind⟩ := FM_some HF8.out 0 (.pointer (some ⟨w.heap.size + 1, 3, none⟩)) rfl
          have ug := map_get wi 73 78 m8 clk8 es8 0 _ ix Tryz.underlying73 HMi.out hfind
          obtain ⟨⟨_, _, _, k3, k4, k5, k6⟩, k7, k8, k9, k10, k11, k12, k13⟩ := cells14 HQi.out.h
          have fz := Lib.frozen_of_heap HQi.out.h 3
          clear HQr HRr HM HN hbi hfind hxi
          go_wp2_with (first | rw [ug])
          go_roundw
          case rel =>
            refine ⟨1, _, by omega, rfl, ⟨HCL.out⟩, ⟨?_⟩, ⟨Kd.R_step HRi.out (fun k hk _ => Below.heap_setCell _ _ _ _ (by have : w.heap.size + 2 ≤ k := hk; show k ≠ w.heap.size + 1; omega))⟩, ⟨(Below.heap_setCell _ _ _ _ (by show m8 ≠ w.heap.size + 1; omega)).trans HMi.out⟩, ⟨(Below.heap_setCell _ _ _ _ (by show m9 ≠ w.heap.size + 1; have := hb8.size; omega)).trans HNi.out⟩⟩
            exact QD_set HR.out HE.out HQi.out 3 _ (set14_3 HQi.out.h)
          case measure => simp [intOf]
        · go_wp2_with (fail)
          (with_reducible refine (atoi_n xi (by omega) _ HQr.out.e).mono ?_)
          rintro r wi ⟨⟨u, rfl⟩, hbi⟩
          have HQi := Aside0.mk (QD_call HQr.out hbi)
          have HRi := Aside0.mk (Kd.R_below HRr.out hbi)
          have HMi := Aside0.mk (blk_below HM.out hbi)
          have HNi := Aside0.mk (blk_below HN.out hbi)
          obtain ⟨ix, hfind⟩ := FM_some HF8.out 1 (.pointer (some ⟨w.heap.size + 1, 4, none⟩)) rfl
          have ug := map_get wi 73 78 m8 clk8 es8 1 _ ix Tryz.underlying73 HMi.out hfind
          obtain ⟨⟨_, _, _, k3, k4, k5, k6⟩, k7, k8, k9, k10, k11, k12, k13⟩ := cells14 HQi.out.h
          have fz := Lib.frozen_of_heap HQi.out.h 4
          clear HQr HRr HM HN hbi hfind hxi
          go_wp2_with (first | rw [ug])
          go_roundw
          case rel =>
            refine ⟨2, _, by omega, rfl, ⟨HCL.out⟩, ⟨?_⟩, ⟨Kd.R_step HRi.out (fun k hk _ => Below.heap_setCell _ _ _ _ (by have : w.heap.size + 2 ≤ k := hk; show k ≠ w.heap.size + 1; omega))⟩, ⟨(Below.heap_setCell _ _ _ _ (by show m8 ≠ w.heap.size + 1; omega)).trans HMi.out⟩, ⟨(Below.heap_setCell _ _ _ _ (by show m9 ≠ w.heap.size + 1; have := hb8.size; omega)).trans HNi.out⟩⟩
            exact QD_set HR.out HE.out HQi.out 4 _ (set14_4 HQi.out.h)
          case measure => simp [intOf]
        · go_wp2_with (fail)
          (with_reducible refine (atoi_n xi (by omega) _ HQr.out.e).mono ?_)
          rintro r wi ⟨⟨u, rfl⟩, hbi⟩
          have HQi := Aside0.mk (QD_call HQr.out hbi)
          have HRi := Aside0.mk (Kd.R_below HRr.out hbi)
          have HMi := Aside0.mk (blk_below HM.out hbi)
          have HNi := Aside0.mk (blk_below HN.out hbi)
          have ug := map_miss wi 73 78 m8 clk8 es8 2 (.pointer none) Tryz.underlying73 (Tryz.zeroValue78 wi) HMi.out (FM_none HF8.out 2 rfl)
          obtain ⟨ix, hfind⟩ := FM_some HF9.out 2 (.pointer (some ⟨w.heap.size + 1, 5, none⟩)) rfl
          have uh := map_get wi 76 81 m9 clk9 es9 2 _ ix Tryz.underlying76 HNi.out hfind
          obtain ⟨⟨_, _, _, k3, k4, k5, k6⟩, k7, k8, k9, k10, k11, k12, k13⟩ := cells14 HQi.out.h
          have fz := Lib.frozen_of_heap HQi.out.h 5
          clear HQr HRr HM HN hbi hfind hxi
          go_wp2_with (first | rw [ug] | rw [uh])
          go_roundw
          case rel =>
            refine ⟨3, _, by omega, rfl, ⟨HCL.out⟩, ⟨?_⟩, ⟨Kd.R_step HRi.out (fun k hk _ => Below.heap_setCell _ _ _ _ (by have : w.heap.size + 2 ≤ k := hk; show k ≠ w.heap.size + 1; omega))⟩, ⟨(Below.heap_setCell _ _ _ _ (by show m8 ≠ w.heap.size + 1; omega)).trans HMi.out⟩, ⟨(Below.heap_setCell _ _ _ _ (by show m9 ≠ w.heap.size + 1; have := hb8.size; omega)).trans HNi.out⟩⟩
            exact QD_set HR.out HE.out HQi.out 5 _ (set14_5 HQi.out.h)
          case measure => simp [intOf]
        · go_wp2_with (fail)
          (with_reducible refine (atoi_n xi (by omega) _ HQr.out.e).mono ?_)
          rintro r wi ⟨⟨u, rfl⟩, hbi⟩
          have HQi := Aside0.mk (QD_call HQr.out hbi)
          have HRi := Aside0.mk (Kd.R_below HRr.out hbi)
          have HMi := Aside0.mk (blk_below HM.out hbi)
          have HNi := Aside0.mk (blk_below HN.out hbi)
          have ug := map_miss wi 73 78 m8 clk8 es8 3 (.pointer none) Tryz.underlying73 (Tryz.zeroValue78 wi) HMi.out (FM_none HF8.out 3 rfl)
          obtain ⟨ix, hfind⟩ := FM_some HF9.out 3 (.pointer (some ⟨w.heap.size + 1, 6, none⟩)) rfl
          have uh := map_get wi 76 81 m9 clk9 es9 3 _ ix Tryz.underlying76 HNi.out hfind
          obtain ⟨⟨_, _, _, k3, k4, k5, k6⟩, k7, k8, k9, k10, k11, k12, k13⟩ := cells14 HQi.out.h
          have fz := Lib.frozen_of_heap HQi.out.h 6
          clear HQr HRr HM HN hbi hfind hxi
          go_wp2_with (first | rw [ug] | rw [uh])
          go_roundw
          case rel =>
            refine ⟨4, _, by omega, rfl, ⟨HCL.out⟩, ⟨?_⟩, ⟨Kd.R_step HRi.out (fun k hk _ => Below.heap_setCell _ _ _ _ (by have : w.heap.size + 2 ≤ k := hk; show k ≠ w.heap.size + 1; omega))⟩, ⟨(Below.heap_setCell _ _ _ _ (by show m8 ≠ w.heap.size + 1; omega)).trans HMi.out⟩, ⟨(Below.heap_setCell _ _ _ _ (by show m9 ≠ w.heap.size + 1; have := hb8.size; omega)).trans HNi.out⟩⟩
            exact QD_set HR.out HE.out HQi.out 6 _ (set14_6 HQi.out.h)
          case measure => simp [intOf]
        · go_wp2_with (fail)
          (with_reducible refine (atoi_n xi (by omega) _ HQr.out.e).mono ?_)
          rintro r wi ⟨⟨u, rfl⟩, hbi⟩
          have HQi := Aside0.mk (QD_call HQr.out hbi)
          have HRi := Aside0.mk (Kd.R_below HRr.out hbi)
          have HMi := Aside0.mk (blk_below HM.out hbi)
          have HNi := Aside0.mk (blk_below HN.out hbi)
          have ug := map_miss wi 73 78 m8 clk8 es8 4 (.pointer none) Tryz.underlying73 (Tryz.zeroValue78 wi) HMi.out (FM_none HF8.out 4 rfl)
          obtain ⟨ix, hfind⟩ := FM_some HF9.out 4 (.pointer (some ⟨w.heap.size + 1, 7, none⟩)) rfl
          have uh := map_get wi 76 81 m9 clk9 es9 4 _ ix Tryz.underlying76 HNi.out hfind
          obtain ⟨⟨_, _, _, k3, k4, k5, k6⟩, k7, k8, k9, k10, k11, k12, k13⟩ := cells14 HQi.out.h
          have fz := Lib.frozen_of_heap HQi.out.h 7
          clear HQr HRr HM HN hbi hfind hxi
          go_wp2_with (first | rw [ug] | rw [uh])
          go_roundw
          case rel =>
            refine ⟨5, _, by omega, rfl, ⟨HCL.out⟩, ⟨?_⟩, ⟨Kd.R_step HRi.out (fun k hk _ => Below.heap_setCell _ _ _ _ (by have : w.heap.size + 2 ≤ k := hk; show k ≠ w.heap.size + 1; omega))⟩, ⟨(Below.heap_setCell _ _ _ _ (by show m8 ≠ w.heap.size + 1; omega)).trans HMi.out⟩, ⟨(Below.heap_setCell _ _ _ _ (by show m9 ≠ w.heap.size + 1; have := hb8.size; omega)).trans HNi.out⟩⟩
            exact QD_set HR.out HE.out HQi.out 7 _ (set14_7 HQi.out.h)
          case measure => simp [intOf]
        · go_wp2_with (fail)
          (with_reducible refine (atoi_n xi (by omega) _ HQr.out.e).mono ?_)
          rintro r wi ⟨⟨u, rfl⟩, hbi⟩
          have HQi := Aside0.mk (QD_call HQr.out hbi)
          have HRi := Aside0.mk (Kd.R_below HRr.out hbi)
          have HMi := Aside0.mk (blk_below HM.out hbi)
          have HNi := Aside0.mk (blk_below HN.out hbi)
          have ug := map_miss wi 73 78 m8 clk8 es8 5 (.pointer none) Tryz.underlying73 (Tryz.zeroValue78 wi) HMi.out (FM_none HF8.out 5 rfl)
          obtain ⟨ix, hfind⟩ := FM_some HF9.out 5 (.pointer (some ⟨w.heap.size + 1, 8, none⟩)) rfl
          have uh := map_get wi 76 81 m9 clk9 es9 5 _ ix Tryz.underlying76 HNi.out hfind
          obtain ⟨⟨_, _, _, k3, k4, k5, k6⟩, k7, k8, k9, k10, k11, k12, k13⟩ := cells14 HQi.out.h
          have fz := Lib.frozen_of_heap HQi.out.h 8
          clear HQr HRr HM HN hbi hfind hxi
          go_wp2_with (first | rw [ug] | rw [uh])
          go_roundw
          case rel =>
            refine ⟨6, _, by omega, rfl, ⟨HCL.out⟩, ⟨?_⟩, ⟨Kd.R_step HRi.out (fun k hk _ => Below.heap_setCell _ _ _ _ (by have : w.heap.size + 2 ≤ k := hk; show k ≠ w.heap.size + 1; omega))⟩, ⟨(Below.heap_setCell _ _ _ _ (by show m8 ≠ w.heap.size + 1; omega)).trans HMi.out⟩, ⟨(Below.heap_setCell _ _ _ _ (by show m9 ≠ w.heap.size + 1; have := hb8.size; omega)).trans HNi.out⟩⟩
            exact QD_set HR.out HE.out HQi.out 8 _ (set14_8 HQi.out.h)
          case measure => simp [intOf]
        · go_wp2_with (fail)
          (with_reducible refine (atoi_n xi (by omega) _ HQr.out.e).mono ?_)
          rintro r wi ⟨⟨u, rfl⟩, hbi⟩
          have HQi := Aside0.mk (QD_call HQr.out hbi)
          have HRi := Aside0.mk (Kd.R_below HRr.out hbi)
          have HMi := Aside0.mk (blk_below HM.out hbi)
          have HNi := Aside0.mk (blk_below HN.out hbi)
          have ug := map_miss wi 73 78 m8 clk8 es8 6 (.pointer none) Tryz.underlying73 (Tryz.zeroValue78 wi) HMi.out (FM_none HF8.out 6 rfl)
          obtain ⟨ix, hfind⟩ := FM_some HF9.out 6 (.pointer (some ⟨w.heap.size + 1, 9, none⟩)) rfl
          have uh := map_get wi 76 81 m9 clk9 es9 6 _ ix Tryz.underlying76 HNi.out hfind
          obtain ⟨⟨_, _, _, k3, k4, k5, k6⟩, k7, k8, k9, k10, k11, k12, k13⟩ := cells14 HQi.out.h
          have fz := Lib.frozen_of_heap HQi.out.h 9
          clear HQr HRr HM HN hbi hfind hxi
          go_wp2_with (first | rw [ug] | rw [uh])
          go_roundw
          case rel =>
            refine ⟨7, _, by omega, rfl, ⟨HCL.out⟩, ⟨?_⟩, ⟨Kd.R_step HRi.out (fun k hk _ => Below.heap_setCell _ _ _ _ (by have : w.heap.size + 2 ≤ k := hk; show k ≠ w.heap.size + 1; omega))⟩, ⟨(Below.heap_setCell _ _ _ _ (by show m8 ≠ w.heap.size + 1; omega)).trans HMi.out⟩, ⟨(Below.heap_setCell _ _ _ _ (by show m9 ≠ w.heap.size + 1; have := hb8.size; omega)).trans HNi.out⟩⟩
            exact QD_set HR.out HE.out HQi.out 9 _ (set14_9 HQi.out.h)
          case measure => simp [intOf]
        · go_wp2_with (fail)
          (with_reducible refine (atoi_n xi (by omega) _ HQr.out.e).mono ?_)
          rintro r wi ⟨⟨u, rfl⟩, hbi⟩
          have HQi := Aside0.mk (QD_call HQr.out hbi)
          have HRi := Aside0.mk (Kd.R_below HRr.out hbi)
          have HMi := Aside0.mk (blk_below HM.out hbi)
          have HNi := Aside0.mk (blk_below HN.out hbi)
          have ug := map_miss wi 73 78 m8 clk8 es8 7 (.pointer none) Tryz.underlying73 (Tryz.zeroValue78 wi) HMi.out (FM_none HF8.out 7 rfl)
          obtain ⟨ix, hfind⟩ := FM_some HF9.out 7 (.pointer (some ⟨w.heap.size + 1, 10, none⟩)) rfl
          have uh := map_get wi 76 81 m9 clk9 es9 7 _ ix Tryz.underlying76 HNi.out hfind
          obtain ⟨⟨_, _, _, k3, k4, k5, k6⟩, k7, k8, k9, k10, k11, k12, k13⟩ := cells14 HQi.out.h
          have fz := Lib.frozen_of_heap HQi.out.h 10
          clear HQr HRr HM HN hbi hfind hxi
          go_wp2_with (first | rw [ug] | rw [uh])
          go_roundw
          case rel =>
            refine ⟨8, _, by omega, rfl, ⟨HCL.out⟩, ⟨?_⟩, ⟨Kd.R_step HRi.out (fun k hk _ => Below.heap_setCell _ _ _ _ (by have : w.heap.size + 2 ≤ k := hk; show k ≠ w.heap.size + 1; omega))⟩, ⟨(Below.heap_setCell _ _ _ _ (by show m8 ≠ w.heap.size + 1; omega)).trans HMi.out⟩, ⟨(Below.heap_setCell _ _ _ _ (by show m9 ≠ w.heap.size + 1; have := hb8.size; omega)).trans HNi.out⟩⟩
            exact QD_set HR.out HE.out HQi.out 10 _ (set14_10 HQi.out.h)
          case measure => simp [intOf]
        · go_wp2_with (fail)
          (with_reducible refine (atoi_n xi (by omega) _ HQr.out.e).mono ?_)
          rintro r wi ⟨⟨u, rfl⟩, hbi⟩
          have HQi := Aside0.mk (QD_call HQr.out hbi)
          have HRi := Aside0.mk (Kd.R_below HRr.out hbi)
          have HMi := Aside0.mk (blk_below HM.out hbi)
          have HNi := Aside0.mk (blk_below HN.out hbi)
          have ug := map_miss wi 73 78 m8 clk8 es8 8 (.pointer none) Tryz.underlying73 (Tryz.zeroValue78 wi) HMi.out (FM_none HF8.out 8 rfl)
          obtain ⟨ix, hfind⟩ := FM_some HF9.out 8 (.pointer (some ⟨w.heap.size + 1, 11, none⟩)) rfl
          have uh := map_get wi 76 81 m9 clk9 es9 8 _ ix Tryz.underlying76 HNi.out hfind
          obtain ⟨⟨_, _, _, k3, k4, k5, k6⟩, k7, k8, k9, k10, k11, k12, k13⟩ := cells14 HQi.out.h
          have fz := Lib.frozen_of_heap HQi.out.h 11
          clear HQr HRr HM HN hbi hfind hxi
          go_wp2_with (first | rw [ug] | rw [uh])
          go_roundw
          case rel =>
            refine ⟨9, _, by omega, rfl, ⟨HCL.out⟩, ⟨?_⟩, ⟨Kd.R_step HRi.out (fun k hk _ => Below.heap_setCell _ _ _ _ (by have : w.heap.size + 2 ≤ k := hk; show k ≠ w.heap.size + 1; omega))⟩, ⟨(Below.heap_setCell _ _ _ _ (by show m8 ≠ w.heap.size + 1; omega)).trans HMi.out⟩, ⟨(Below.heap_setCell _ _ _ _ (by show m9 ≠ w.heap.size + 1; have := hb8.size; omega)).trans HNi.out⟩⟩
            exact QD_set HR.out HE.out HQi.out 11 _ (set14_11 HQi.out.h)
          case measure => simp [intOf]
        · go_wp2_with (fail)
          (with_reducible refine (atoi_n xi (by omega) _ HQr.out.e).mono ?_)
          rintro r wi ⟨⟨u, rfl⟩, hbi⟩
          have HQi := Aside0.mk (QD_call HQr.out hbi)
          have HRi := Aside0.mk (Kd.R_below HRr.out hbi)
          have HMi := Aside0.mk (blk_below HM.out hbi)
          have HNi := Aside0.mk (blk_below HN.out hbi)
          have ug := map_miss wi 73 78 m8 clk8 es8 9 (.pointer none) Tryz.underlying73 (Tryz.zeroValue78 wi) HMi.out (FM_none HF8.out 9 rfl)
          obtain ⟨ix, hfind⟩ := FM_some HF9.out 9 (.pointer (some ⟨w.heap.size + 1, 12, none⟩)) rfl
          have uh := map_get wi 76 81 m9 clk9 es9 9 _ ix Tryz.underlying76 HNi.out hfind
          obtain ⟨⟨_, _, _, k3, k4, k5, k6⟩, k7, k8, k9, k10, k11, k12, k13⟩ := cells14 HQi.out.h
          have fz := Lib.frozen_of_heap HQi.out.h 12
          clear HQr HRr HM HN hbi hfind hxi
          go_wp2_with (first | rw [ug] | rw [uh])
          go_roundw
          case rel =>
            refine ⟨10, _, by omega, rfl, ⟨HCL.out⟩, ⟨?_⟩, ⟨Kd.R_step HRi.out (fun k hk _ => Below.heap_setCell _ _ _ _ (by have : w.heap.size + 2 ≤ k := hk; show k ≠ w.heap.size + 1; omega))⟩, ⟨(Below.heap_setCell _ _ _ _ (by show m8 ≠ w.heap.size + 1; omega)).trans HMi.out⟩, ⟨(Below.heap_setCell _ _ _ _ (by show m9 ≠ w.heap.size + 1; have := hb8.size; omega)).trans HNi.out⟩⟩
            exact QD_set HR.out HE.out HQi.out 12 _ (set14_12 HQi.out.h)
          case measure => simp [intOf]
        · go_wp2_with (fail)
          (with_reducible refine (atoi_n xi (by omega) _ HQr.out.e).mono ?_)
          rintro r wi ⟨⟨u, rfl⟩, hbi⟩
          have HQi := Aside0.mk (QD_call HQr.out hbi)
          have HRi := Aside0.mk (Kd.R_below HRr.out hbi)
          have HMi := Aside0.mk (blk_below HM.out hbi)
          have HNi := Aside0.mk (blk_below HN.out hbi)
          obtain ⟨ix, hfind⟩ := FM_some HF8.out 10 (.pointer (some ⟨w.heap.size + 1, 13, none⟩)) rfl
          have ug := map_get wi 73 78 m8 clk8 es8 10 _ ix Tryz.underlying73 HMi.out hfind
          obtain ⟨⟨_, _, _, k3, k4, k5, k6⟩, k7, k8, k9, k10, k11, k12, k13⟩ := cells14 HQi.out.h
          have fz := Lib.frozen_of_heap HQi.out.h 13
          clear HQr HRr HM HN hbi hfind hxi
          go_wp2_with (first | rw [ug])
          go_roundw
          case rel =>
            refine ⟨11, _, by omega, rfl, ⟨HCL.out⟩, ⟨?_⟩, ⟨Kd.R_step HRi.out (fun k hk _ => Below.heap_setCell _ _ _ _ (by have : w.heap.size + 2 ≤ k := hk; show k ≠ w.heap.size + 1; omega))⟩, ⟨(Below.heap_setCell _ _ _ _ (by show m8 ≠ w.heap.size + 1; omega)).trans HMi.out⟩, ⟨(Below.heap_setCell _ _ _ _ (by show m9 ≠ w.heap.size + 1; have := hb8.size; omega)).trans HNi.out⟩⟩
            exact QD_set HR.out HE.out HQi.out 13 _ (set14_13 HQi.out.h)
          case measure => simp [intOf]
      · obtain rfl : i = 11 := by omega
        have hC : cfgOf x1 x2 ns = cf := by
          have h1 := HC.out
          rw [List.take_of_length_le (by rw [← hns, List.length_drop]; omega)] at h1
          exact h1
        have hal : cf.l1 = aliL x2 := by rw [← hC]; exact cfgL_l1 _ _ _
        have HCC := Aside0.mk hC
        have HAL := Aside0.mk hal
        clear hC hal HC HM HN
        obtain ⟨a0, a1, l1, b0, b1, b2, b3, b4, b5, p0, p1, p2, p3, p4⟩ := cf
        simp only [cfgC] at HQr
        obtain ⟨A1, c1, hv2, hc1, _⟩ := Kd.R_reads HRr.out
        subst hv2
        obtain ⟨⟨k0, k1, k2, k3, k4, k5, k6⟩, k7, k8, k9, k10, k11, k12, k13⟩ := cells14 HQr.out.h
        have hr0 := HQr.out.r
        unfold zC at hr0
        obtain ⟨⟨j0, j1, j2, j3, j4, j5, j6⟩, j7, j8, j9, j10, j11, j12, j13⟩ := cells14 hr0
        have f0 := Lib.frozen_of_heap hr0 0
        have f1 := Lib.frozen_of_heap hr0 1
        have f2 := Lib.frozen_of_heap hr0 2
        have f3 := Lib.frozen_of_heap hr0 3
        have f4 := Lib.frozen_of_heap hr0 4
        have f5 := Lib.frozen_of_heap hr0 5
        have f6 := Lib.frozen_of_heap hr0 6
        have f7 := Lib.frozen_of_heap hr0 7
        have f8 := Lib.frozen_of_heap hr0 8
        have f9 := Lib.frozen_of_heap hr0 9
        have f10 := Lib.frozen_of_heap hr0 10
        have f11 := Lib.frozen_of_heap hr0 11
        have f12 := Lib.frozen_of_heap hr0 12
        have f13 := Lib.frozen_of_heap hr0 13
        have HR0 := Aside0.mk hr0
        clear hr0
        go_wp2_with (fail)
        refine bodyPost_ret (results_cell_row rfl _ _ w.heap.size 44 #[.string a0, .int .i64 a1, .slice A1 (aliL x2).length c1, .bool b0, .bool b1, .int .i64 b2, .int .i64 b3, .int .i64 b4, .int .i64 b5, .int .i64 p0, .int .i64 p1, .int .i64 p2, .int .i64 p3, .bool p4] (0, 0) _ rfl ?hc Tryz.underlying44 rfl (by kernel_rfl)) rfl ?_
        case hc => exact set14_all HR0.out
        obtain rfl : l1 = aliL x2 := HAL.out
        rw [HCC.out]
        refine ⟨A1, c1, rfl, ?_, set14_below HQr.out.b (Nat.le_refl _) _ _ _ _ _ _ _ _ _ _ _ _ _ _⟩
        exact Kd.R_mono (Kd.R_step HRr.out (fun k hk _ => set14_far (by have : w.heap.size + 2 ≤ k := hk; omega) _ _ _ _ _ _ _ _ _ _ _ _ _ _)) (fun _ _ => trivial)
end Go.Proofs.YtndgaeldndgioaaGreatDoor.QAll
end

section
/- node.New and script.Node of a node, told by plain words. -/
set_option linter.unusedVariables false
set_option linter.unusedSimpArgs false
namespace Go.Proofs.YtndgaeldndgioaaGreatDoor.QAll
open Go.RowKit Go.Proofs.YtndgaeldndgioaaGreatDoorW.PrintWords Go.Proofs.YtndgaeldndgioaaGreatDoorW.PrintLast Go.Proofs.YtndgaeldndgioaaGreatDoorW.PrintMore
def callT (d : S37) : ByteArray := if rightB d.f0 d.f1 = true then (if d.f1 = 0 then d.f0 else (d.f0 ++ (⟨#[45]⟩ : ByteArray)) ++ itoaB d.f1) else ⟨#[]⟩
def alT (l : List S37) : ByteArray := if l = [] then ⟨#[45]⟩ else joinS (l.map callT) ⟨#[44]⟩
def xidB (b0 b1 : Bool) (b2 b3 b4 b5 : Int) : Bool := (decide (16 ≤ b2) && decide (b2 ≤ 256)) && ((decide (1 ≤ b3) && decide (b3 ≤ (if b0 = true then (if b1 = true then 32 else 63) else (if b1 = true then 4 else 7)))) && ((decide (4 ≤ b4) && decide (b4 ≤ 255)) && (decide (1 ≤ b5) && decide (b5 ≤ 15))))
def newOf (c : Cfg) : Int := newE (distL [] (⟨c.a0, c.a1⟩ :: c.l1)) c.l1.length (rightB c.a0 c.a1) (xidB c.b0 c.b1 c.b2 c.b3 c.b4 c.b5) (tncB c.p0 c.p1 c.p2 c.p3)
def nodeW (c : Cfg) : List ByteArray := [⟨#[78, 79, 68, 69]⟩, callT ⟨c.a0, c.a1⟩, alT c.l1] ++ nodeN c.b0 c.b1 c.b2 c.b3 c.b4 c.b5 c.p0 c.p1 c.p2 c.p3 c.p4
def nodeS (c : Cfg) : ByteArray := if newOf c = 0 then joinS (nodeW c) ⟨#[32]⟩ else ⟨#[]⟩
structure CfgOk (c : Cfg) : Prop where
  len : c.l1.length ≤ 900000
  all : ∀ d ∈ (⟨c.a0, c.a1⟩ : S37) :: c.l1, d.f0.size ≤ 9223372036854775807 ∧ I64 d.f1
  i : I64 c.b2 ∧ I64 c.b3 ∧ I64 c.b4 ∧ I64 c.b5 ∧ I64 c.p0 ∧ I64 c.p1 ∧ I64 c.p2 ∧ I64 c.p3
theorem xid_f (b0 b1 : Bool) (b2 b3 b4 b5 : Int) : xid_Right.f b0 b1 b2 b3 b4 b5 = some (xidB b0 b1 b2 b3 b4 b5) := by
  have hin : ∀ a b c : Int, xid_in.f a b c = some (decide (b ≤ a) && decide (a ≤ c)) := by
    intro a b c
    unfold xid_in.f
    by_cases h : a ≥ b
    · rw [if_pos h, decide_eq_true (show b ≤ a from h), Bool.true_and]
    · rw [if_neg h, decide_eq_false (show ¬ b ≤ a from h), Bool.false_and]
  have hm : xid_Most.f b0 b1 = some (if b0 = true then (if b1 = true then 32 else 63) else (if b1 = true then 4 else 7)) := by
    cases b0 <;> cases b1 <;> rfl
  unfold xid_Right.f xidB
  rw [hin, Option.bind_some]
  cases h1 : (decide (16 ≤ b2) && decide (b2 ≤ 256)) with
  | false => rfl
  | true =>
    rw [if_pos rfl, hm, Option.bind_some, hin, Option.bind_some]
    cases h2 : (decide (1 ≤ b3) && decide (b3 ≤ (if b0 = true then (if b1 = true then 32 else 63) else (if b1 = true then 4 else 7)))) with
    | false => rfl
    | true =>
      rw [if_pos rfl, hin, Option.bind_some]
      cases h3 : (decide (4 ≤ b4) && decide (b4 ≤ 255)) with
      | false => rfl
      | true =>
        rw [if_pos rfl, hin]
        rfl
theorem dist_f {c : Cfg} (h : CfgOk c) : call_Distinct.f (⟨c.a0, c.a1⟩ :: c.l1) = some (distL [] (⟨c.a0, c.a1⟩ :: c.l1)) := by
  unfold call_Distinct.f
  rw [if_pos]
  rw [Bool.and_eq_true]
  refine ⟨decide_eq_true (by have := h.len; simp; omega), List.all_eq_true.2 fun d hd => ?_⟩
  rw [Bool.and_eq_true]
  exact ⟨decide_eq_true (h.all d hd).1, Go.WalkArith.wf_i64 (h.all d hd).2⟩
theorem right_f {c : Cfg} (h : CfgOk c) : call_Right.f c.a0 c.a1 = some (rightB c.a0 c.a1) := by
  unfold call_Right.f
  rw [if_pos (h.all ⟨c.a0, c.a1⟩ (List.mem_cons_self ..)).1]
theorem dist_right : ∀ (l seen : List S37), distL seen l = true → ∀ d ∈ l, rightB d.f0 d.f1 = true
  | [], _, _, d, hd => by cases hd
  | c :: r, seen, h, d, hd => by
    simp only [distL, Bool.and_eq_true] at h
    rcases List.mem_cons.1 hd with rfl | hd
    · exact h.1
    · exact dist_right r _ h.2.2 d hd
theorem right_small {s : ByteArray} {n : Int} (h : rightB s n = true) : 1 ≤ s.size ∧ s.size ≤ 6 ∧ 0 ≤ n ∧ n ≤ 15 ∧ letsB s = true := by
  unfold rightB at h
  simp only [Bool.and_eq_true, decide_eq_true_eq] at h
  exact ⟨h.2.1, h.2.2.1, h.2.2.2.1, h.2.2.2.2, h.1⟩
theorem callT_f (d : S37) (h : rightB d.f0 d.f1 = true) : call_Text.f d.f0 d.f1 = some (callT d) := by
  obtain ⟨h1, h2, h3, h4, _⟩ := right_small h
  unfold call_Text.f callT
  have hr : call_Right.f d.f0 d.f1 = some true := by
    unfold call_Right.f
    rw [if_pos (by omega), h]
  rw [hr, Option.bind_some, if_pos rfl, if_pos h]
  by_cases h0 : d.f1 = 0
  · rw [if_pos h0, if_pos h0]
  · rw [if_neg h0, if_neg h0, if_pos (by omega), itoa_f _ (by unfold I64; omega), Option.bind_some, if_pos]
    have := Pure.num_size d.f1 (by omega) (by omega)
    rw [ByteArray.size_append]
    have h5 : (⟨#[45]⟩ : ByteArray).size = 1 := rfl
    omega
theorem callT_size (d : S37) (h : rightB d.f0 d.f1 = true) : (callT d).size ≤ 12 := by
  obtain ⟨h1, h2, h3, h4, _⟩ := right_small h
  unfold callT
  rw [if_pos h]
  split
  · omega
  · have := Pure.num_size d.f1 (by omega) (by omega)
    rw [ByteArray.size_append, ByteArray.size_append]
    have h5 : (⟨#[45]⟩ : ByteArray).size = 1 := rfl
    omega
theorem join_f (l : List ByteArray) (c : UInt8) (h0 : l ≠ []) (hl : l.length ≤ 1000) (hs : ∀ x ∈ l, x.size ≤ 100000) : strings_Join.f l ⟨#[c]⟩ = some (joinS l ⟨#[c]⟩) := by
  unfold strings_Join.f
  rw [if_pos]
  refine ⟨List.length_pos_iff.2 h0, by omega, ?_⟩
  cases l with
  | nil => exact absurd rfl h0
  | cons x r =>
    have := Pure.join_le c 100000 (r.map (·.data.toList)) x.data.toList (fun y hy => by
      have hy' : y ∈ (x :: r).map (fun z : ByteArray => z.data.toList) := hy
      obtain ⟨z, hz, rfl⟩ := List.mem_map.1 hy'
      have := hs z hz
      simpa using this)
    have h2 : (joinL (x :: r) ⟨#[c]⟩).length ≤ (r.length + 1) * 100001 := by simpa [joinL] using this
    have h3 : r.length + 1 ≤ 1000 := by simpa using hl
    omega
theorem al_loop : ∀ (r q : List S37) (l : List S37) (ws : List ByteArray) (k : Nat), l = q ++ r → l.length ≤ 1000 → ws = q.map callT → (∀ d ∈ l, rightB d.f0 d.f1 = true) → r.length + 1 ≤ k → script_aliases.l0 k ws l (l.length : Int) (q.length : Int) = some (alT l)
  | [], q, l, ws, k + 1, hl, hn, hw, hr, hk => by
    simp only [List.append_nil] at hl
    subst hl
    unfold script_aliases.l0
    rw [if_neg (by omega)]
    unfold alT
    by_cases he : l = []
    · subst he
      subst hw
      rfl
    · have h1 : ws.length = l.length := by rw [hw, List.length_map]
      have h2 : 0 < l.length := List.length_pos_iff.2 he
      rw [if_neg (by omega), if_neg he, ← hw, join_f ws 44 (by intro h; rw [h] at h1; simp at h1; omega) (by omega) (fun x hx => by
        rw [hw] at hx
        obtain ⟨d, hd, rfl⟩ := List.mem_map.1 hx
        have := callT_size d (hr d hd)
        omega)]
      rfl
  | d :: r, q, l, ws, k + 1, hl, hn, hw, hr, hk => by
    have hlen : l.length = q.length + (r.length + 1) := by rw [hl]; simp
    have hd : rd_T37 l (q.length : Int) = d := by
      unfold rd_T37
      rw [hl]
      simp
    have hwl : ws.length = q.length := by rw [hw, List.length_map]
    unfold script_aliases.l0
    rw [if_pos (by omega), if_pos (by omega), if_pos (by omega), hd, callT_f d (hr d (by rw [hl]; simp)), Option.bind_some, if_pos (by omega)]
    have := al_loop r (q ++ [d]) l (ws ++ [callT d]) k (by rw [hl]; simp) hn (by rw [hw]; simp) hr (by simp at hk; omega)
    rw [show wrap64 ((q.length : Int) + 1) = (((q ++ [d]).length : Nat) : Int) by rw [Pure.wrap_succ _ (by omega)]; simp]
    exact this
theorem al_f (l : List S37) (hn : l.length ≤ 1000) (hr : ∀ d ∈ l, rightB d.f0 d.f1 = true) : script_aliases.f (l.length + 1) l = some (alT l) := by
  unfold script_aliases.f
  exact al_loop l [] l [] (l.length + 1) rfl hn rfl hr (by omega)
/-- What holds of a node that may be. -/
structure Fine (c : Cfg) : Prop where
  d : distL [] (⟨c.a0, c.a1⟩ :: c.l1) = true
  n : c.l1.length ≤ 4
  r : rightB c.a0 c.a1 = true
  x : xidB c.b0 c.b1 c.b2 c.b3 c.b4 c.b5 = true
  t : tncB c.p0 c.p1 c.p2 c.p3 = true
theorem fine_of {c : Cfg} (h : newOf c = 0) : Fine c := by
  unfold newOf newE digiE linksE at h
  cases hd : distL [] (⟨c.a0, c.a1⟩ :: c.l1) with
  | false => rw [hd] at h; simp at h
  | true =>
    rw [hd] at h
    by_cases hn : 4 < c.l1.length
    · simp [hn] at h
    · have hr := dist_right _ _ hd ⟨c.a0, c.a1⟩ (List.mem_cons_self ..)
      simp only [hn] at h
      cases hx : xidB c.b0 c.b1 c.b2 c.b3 c.b4 c.b5 with
      | false => rw [hx] at h; simp [hr] at h
      | true =>
        cases ht : tncB c.p0 c.p1 c.p2 c.p3 with
        | false => rw [hx, ht] at h; simp [hr] at h
        | true => exact ⟨hd, by omega, hr, hx, ht⟩
theorem xidB_small {b0 b1 : Bool} {b2 b3 b4 b5 : Int} (h : xidB b0 b1 b2 b3 b4 b5 = true) : 0 ≤ b2 ∧ b2 ≤ 256 ∧ 0 ≤ b3 ∧ b3 ≤ 63 ∧ 0 ≤ b4 ∧ b4 ≤ 255 ∧ 0 ≤ b5 ∧ b5 ≤ 15 := by
  unfold xidB at h
  simp only [Bool.and_eq_true, decide_eq_true_eq] at h
  cases b0 <;> cases b1 <;> simp at h <;> omega
theorem tncB_small {p0 p1 p2 p3 : Int} (h : tncB p0 p1 p2 p3 = true) : 0 ≤ p0 ∧ p0 ≤ 255 ∧ 0 ≤ p1 ∧ p1 ≤ 255 ∧ 0 ≤ p2 ∧ p2 ≤ 255 ∧ 0 ≤ p3 ∧ p3 ≤ 255 := by
  unfold tncB inB at h
  simp only [Bool.and_eq_true, decide_eq_true_eq] at h
  omega
theorem bitI_small (b : Bool) : 0 ≤ bitI b ∧ bitI b ≤ 1 := by cases b <;> decide
/-- The eleven numbers of a node. -/
def nums (c : Cfg) : List Int := [bitI c.b0, bitI c.b1, c.b2, c.b3, c.b4, c.b5, c.p0, c.p1, c.p2, c.p3, bitI c.p4]
theorem nodeN_nums (c : Cfg) : nodeN c.b0 c.b1 c.b2 c.b3 c.b4 c.b5 c.p0 c.p1 c.p2 c.p3 c.p4 = (nums c).map itoaB := rfl
theorem nums_small {c : Cfg} (h : Fine c) : ∀ n ∈ nums c, 0 ≤ n ∧ n ≤ 999 := by
  have h1 := xidB_small h.x
  have h2 := tncB_small h.t
  have h3 := bitI_small c.b0
  have h4 := bitI_small c.b1
  have h5 := bitI_small c.p4
  intro n hn
  simp only [nums, List.mem_cons, List.not_mem_nil, or_false] at hn
  omega
theorem alT_size {c : Cfg} (h : Fine c) : (alT c.l1).size ≤ 1000 := by
  unfold alT
  split
  · decide
  · rename_i hne
    have hr := fun d hd => dist_right _ _ h.d d (List.mem_cons_of_mem _ hd)
    have hn := h.n
    generalize c.l1 = l at *
    cases l with
    | nil => exact absurd rfl hne
    | cons x r =>
      have := Pure.join_le 44 12 ((r.map callT).map (·.data.toList)) (callT x).data.toList (fun y hy => by
        rw [← List.map_cons (f := fun z : ByteArray => z.data.toList), ← List.map_cons] at hy
        obtain ⟨z, hz, rfl⟩ := List.mem_map.1 hy
        obtain ⟨d, hd, rfl⟩ := List.mem_map.1 hz
        have := callT_size d (hr d hd)
        simpa using this)
      have h2 : (joinS (callT x :: r.map callT) ⟨#[44]⟩).size ≤ (r.length + 1) * 13 := by
        have h3 : (joinS (callT x :: r.map callT) ⟨#[44]⟩).size = (joinL (callT x :: r.map callT) ⟨#[44]⟩).length := by
          show (List.toArray _).size = _
          simp [joinS]
        rw [h3]
        unfold joinL
        simpa using this
      rw [List.map_cons]
      simp at hn
      omega
theorem nodeW_sizes {c : Cfg} (h : Fine c) : ∀ x ∈ nodeW c, x.size ≤ 1000 := by
  intro x hx
  unfold nodeW at hx
  rw [nodeN_nums] at hx
  rcases List.mem_append.1 hx with hx | hx
  · simp only [List.mem_cons, List.not_mem_nil, or_false] at hx
    rcases hx with rfl | rfl | rfl
    · decide
    · have := callT_size ⟨c.a0, c.a1⟩ h.r
      omega
    · exact alT_size h
  · obtain ⟨n, hn, rfl⟩ := List.mem_map.1 hx
    have h1 := nums_small h n hn
    have := Pure.num_size n (by omega) (by omega)
    omega
theorem node_join {c : Cfg} (h : Fine c) : strings_Join.f (nodeW c) ⟨#[32]⟩ = some (joinS (nodeW c) ⟨#[32]⟩) :=
  join_f (nodeW c) 32 (by unfold nodeW; simp) (by unfold nodeW nodeN; simp) (fun x hx => by have := nodeW_sizes h x hx; omega)
theorem snode_calls (c : Cfg) (A : Option Addr) (n : Nat) (w : World) (hE : EnvW w) (h : CfgOk c) (hr : Kd.C k37 w A c.l1.length c.l1) (hc : c.l1.length ≤ n) :
    Calls Tryz.prog 10 #[cfgV c A n] w fun e w' => e = .returned (.string (nodeS c)) ∧ Below w.heap.size w w' := by
  by_cases h0 : newOf c = 0
  · have hf := fine_of h0
    have hj := node_join hf
    unfold nodeS
    rw [if_pos h0]
    obtain ⟨a0, a1, l1, b0, b1, b2, b3, b4, b5, p0, p1, p2, p3, p4⟩ := c
    exact snode_ok a0 a1 A n l1 b0 b1 b2 b3 b4 b5 p0 p1 p2 p3 p4 _ _ _ (l1.length + 1) _ _ w hE hr hc h.len (dist_f h) (right_f h) (xid_f _ _ _ _ _ _) h0 h.i (callT_f ⟨a0, a1⟩ hf.r) (al_f l1 (by have : l1.length ≤ 4 := hf.n; omega) (fun d hd => dist_right _ _ hf.d d (List.mem_cons_of_mem _ hd))) _ hj
  · unfold nodeS
    rw [if_neg h0]
    obtain ⟨a0, a1, l1, b0, b1, b2, b3, b4, b5, p0, p1, p2, p3, p4⟩ := c
    exact snode_err a0 a1 A n l1 b0 b1 b2 b3 b4 b5 p0 p1 p2 p3 p4 _ _ _ w hr hc h.len (dist_f h) (right_f h) (xid_f _ _ _ _ _ _) h0
theorem new_calls (c : Cfg) (A : Option Addr) (n : Nat) (w : World) (h : CfgOk c) (hr : Kd.C k37 w A c.l1.length c.l1) (hc : c.l1.length ≤ n) :
    Calls Tryz.prog 11 #[cfgV c A n] w fun e w' => (∃ p : Option Addr, (newOf c = 0 → p ≠ none) ∧ e = .returned (.tuple #[.pointer p, .int .i64 (newOf c)])) ∧ Below w.heap.size w w' := by
  have hd := dist_f h
  have hrt := right_f h
  have hl := h.len
  obtain ⟨a0, a1, l1, b0, b1, b2, b3, b4, b5, p0, p1, p2, p3, p4⟩ := c
  exact node_New.calls a0 a1 A n l1 b0 b1 b2 b3 b4 b5 p0 p1 p2 p3 p4 _ _ _ w hr hc hl hd hrt (xid_f _ _ _ _ _ _)
end Go.Proofs.YtndgaeldndgioaaGreatDoor.QAll
end

section
/- script.Config, walked by hand: the node of a line, or none, of any line. -/
set_option linter.unusedVariables false
set_option linter.unusedSimpArgs false
namespace Go.Proofs.YtndgaeldndgioaaGreatDoor.QAll
open Go.RowKit Go.Proofs.YtndgaeldndgioaaGreatDoorW.PrintWords Go.Proofs.YtndgaeldndgioaaGreatDoorW.PrintLast Go.Proofs.YtndgaeldndgioaaGreatDoorW.PrintMore
theorem callP_small (s : ByteArray) : (callP s).f0.size ≤ 6 ∧ 0 ≤ (callP s).f1 ∧ (callP s).f1 ≤ 15 := by
  have h0 : (⟨#[]⟩ : ByteArray).size ≤ 6 ∧ (0 : Int) ≤ 0 ∧ (0 : Int) ≤ 15 := ⟨by decide, by omega, by omega⟩
  unfold callP parseS
  split
  · split
    · split
      · rename_i h
        obtain ⟨_, h1, h2, h3, _⟩ := right_small h
        exact ⟨h1, h2, h3⟩
      · exact h0
    · exact h0
  · split
    · rename_i h
      obtain ⟨_, h1, h2, h3, _⟩ := right_small h
      exact ⟨h1, h2, h3⟩
    · exact h0
theorem aliL_len (s : ByteArray) : (aliL s).length ≤ s.size + 1 := by
  unfold aliL
  split
  · simp
  · rw [List.length_map]
    exact (Pure.split_sizes s 44).2.1
theorem aliL_small (s : ByteArray) : ∀ d ∈ aliL s, d.f0.size ≤ 6 ∧ 0 ≤ d.f1 ∧ d.f1 ≤ 15 := by
  intro d hd
  unfold aliL at hd
  split at hd
  · cases hd
  · obtain ⟨x, _, rfl⟩ := List.mem_map.1 hd
    exact callP_small x
def NumsI (c : Cfg) : Prop := I64 c.b2 ∧ I64 c.b3 ∧ I64 c.b4 ∧ I64 c.b5 ∧ I64 c.p0 ∧ I64 c.p1 ∧ I64 c.p2 ∧ I64 c.p3
theorem cfgN_i (i : Nat) (n : Int) (c : Cfg) (hn : I64 n) (h : NumsI c) : NumsI (cfgN i n c) ∧ (cfgN i n c).a0 = c.a0 ∧ (cfgN i n c).a1 = c.a1 := by
  obtain ⟨h1, h2, h3, h4, h5, h6, h7, h8⟩ := h
  unfold cfgN
  split <;> refine ⟨?_, rfl, rfl⟩ <;> simp only [NumsI] <;> exact ⟨by assumption, by assumption, by assumption, by assumption, by assumption, by assumption, by assumption, by assumption⟩
theorem cfgL_i : ∀ (l : List ByteArray) (i : Nat) (c : Cfg), NumsI c → NumsI (cfgL l i c) ∧ (cfgL l i c).a0 = c.a0 ∧ (cfgL l i c).a1 = c.a1
  | [], _, _, h => ⟨h, rfl, rfl⟩
  | s :: l, i, c, h => by
    have h1 := cfgN_i i (atoiN s) c (atoiN_i64 s) h
    have h2 := cfgL_i l (i + 1) _ h1.1
    exact ⟨h2.1, h2.2.1.trans h1.2.1, h2.2.2.trans h1.2.2⟩
theorem cfgOf_ok (x1 x2 : ByteArray) (ns : List ByteArray) (h2 : x2.size ≤ 1000) : CfgOk (cfgOf x1 x2 ns) := by
  have h0 : NumsI (cfg0 x1 x2) := by
    unfold NumsI cfg0 I64
    simp
  have h := cfgL_i ns 0 (cfg0 x1 x2) h0
  have hl := cfgL_l1 ns 0 (cfg0 x1 x2)
  refine ⟨?_, ?_, h.1⟩
  · show (cfgL ns 0 (cfg0 x1 x2)).l1.length ≤ _
    rw [hl]
    have := aliL_len x2
    show (aliL x2).length ≤ _
    omega
  · intro d hd
    have hd' : d = ⟨(cfgL ns 0 (cfg0 x1 x2)).a0, (cfgL ns 0 (cfg0 x1 x2)).a1⟩ ∨ d ∈ (cfgL ns 0 (cfg0 x1 x2)).l1 := List.mem_cons.1 hd
    rw [hl, h.2.1, h.2.2] at hd'
    have : d.f0.size ≤ 6 ∧ 0 ≤ d.f1 ∧ d.f1 ≤ 15 := by
      rcases hd' with rfl | hd'
      · exact callP_small x1
      · exact aliL_small x2 d hd'
    unfold I64
    omega
def cfgZ : Cfg := ⟨⟨#[]⟩, 0, [], false, false, 0, 0, 0, 0, 0, 0, 0, 0, false⟩
def cfgS (s : ByteArray) : Cfg := cfgOf ((splitS s ⟨#[32]⟩).getD 1 ByteArray.empty) ((splitS s ⟨#[32]⟩).getD 2 ByteArray.empty) ((splitS s ⟨#[32]⟩).drop 3)
def confOk (s : ByteArray) : Bool := decide ((splitS s ⟨#[32]⟩).length = 14) && decide (nodeS (cfgS s) = s)
def confR (s : ByteArray) : Cfg := if confOk s = true then cfgS s else cfgZ
def confE (s : ByteArray) : Int := if confOk s = true then 0 else 2
theorem cfgS_ok (s : ByteArray) (hs : s.size ≤ 1000) : CfgOk (cfgS s) := by
  refine cfgOf_ok _ _ _ ?_
  rw [List.getD_eq_getElem?_getD]
  cases h : (splitS s ⟨#[32]⟩)[2]? with
  | none => decide
  | some x =>
    obtain ⟨hi, rfl⟩ := List.getElem?_eq_some_iff.1 h
    exact Nat.le_trans ((Pure.split_sizes s 32).2.2 _ (List.getElem_mem hi)) hs
set_option maxHeartbeats 8000000 in
set_option maxRecDepth 100000 in
theorem config_calls (s : ByteArray) (w : World) (hE : EnvW w) (hs : s.size ≤ 1000) :
    Calls Tryz.prog 12 #[.string s] w fun e w' => ∃ A n, e = .returned (.tuple #[cfgV (confR s) A n, .int .i64 (confE s)]) ∧ Kd.C k37 w' A (confR s).l1.length (confR s).l1 ∧ (confR s).l1.length ≤ n ∧ Below w.heap.size w w' := by
  have HE := Aside0.mk hE
  have HX : Aside0 ((w.alloc (.cells zC 44 (0, 0))).heap[w.heap.size]? = some (.cells zC 44 (0, 0))) := ⟨heap_alloc_new _ _⟩
  have HB : Aside0 (Below w.heap.size w (w.alloc (.cells zC 44 (0, 0)))) := ⟨(Below.refl _ _).alloc (Nat.le_refl _) _⟩
  unfold zC at HX HB
  have HOk := Aside0.mk (cfgS_ok s hs)
  have HSz := Aside0.mk (fun x hx => Nat.le_trans ((Pure.split_sizes s 32).2.2 x hx) hs)
  clear hE
  go_enter Tryz.func12, Tryz.ntmps12
  go_wp2_with (fail)
  (with_reducible refine (strings_Split.calls s ⟨#[32]⟩ (splitS s ⟨#[32]⟩) _ (HE.out.below HB.out) (by unfold strings_Split.f; rw [if_pos ⟨by decide, by omega⟩])).mono ?_)
  rintro r w2 ⟨v2, rfl, hR2, hb2⟩
  obtain ⟨A2, c2, rfl, hc2, hC2⟩ := Kd.R_reads hR2
  have HX2 := Aside0.mk (blk_below HX.out hb2)
  have HB2 := Aside0.mk (below_then HB.out HB.out.size hb2)
  have HC2 := Aside0.mk hC2
  clear hb2 hR2 HX HB hC2
  by_cases h14 : (splitS s ⟨#[32]⟩).length = 14
  case neg =>
    have hne : ((((splitS s ⟨#[32]⟩).length : Nat) : Int) != 14) = true := bne_iff_ne.2 (by omega)
    have hok : confOk s = false := by unfold confOk; rw [decide_eq_false h14]; rfl
    have HK : Aside0 (confR s = cfgZ ∧ confE s = 2) := ⟨by unfold confR confE; rw [hok]; exact ⟨rfl, rfl⟩⟩
    obtain ⟨⟨k0, k1, k2, k3, k4, k5, k6⟩, k7, k8, k9, k10, k11, k12, k13⟩ := cells14 HX2.out
    have f0 := Lib.frozen_of_heap HX2.out 0
    have f1 := Lib.frozen_of_heap HX2.out 1
    have f2 := Lib.frozen_of_heap HX2.out 2
    have f3 := Lib.frozen_of_heap HX2.out 3
    have f4 := Lib.frozen_of_heap HX2.out 4
    have f5 := Lib.frozen_of_heap HX2.out 5
    have f6 := Lib.frozen_of_heap HX2.out 6
    have f7 := Lib.frozen_of_heap HX2.out 7
    have f8 := Lib.frozen_of_heap HX2.out 8
    have f9 := Lib.frozen_of_heap HX2.out 9
    have f10 := Lib.frozen_of_heap HX2.out 10
    have f11 := Lib.frozen_of_heap HX2.out 11
    have f12 := Lib.frozen_of_heap HX2.out 12
    have f13 := Lib.frozen_of_heap HX2.out 13
    go_wp2_with (fail)
    refine bodyPost_ret (results_ct rfl _ _ w.heap.size 44 #[.string ⟨#[]⟩, .int .i64 0, .slice none 0 0, .bool false, .bool false, .int .i64 0, .int .i64 0, .int .i64 0, .int .i64 0, .int .i64 0, .int .i64 0, .int .i64 0, .int .i64 0, .bool false] (0, 0) _ rfl ?hc Tryz.underlying44 rfl (by kernel_rfl)) rfl ?_
    case hc => exact set14_all HX2.out
    rw [HK.out.1, HK.out.2]
    exact ⟨none, 0, rfl, Kd.C_nil _ _, Nat.le_refl _, set14_below HB2.out (Nat.le_refl _) _ _ _ _ _ _ _ _ _ _ _ _ _ _⟩
  case pos =>
    have hC2 := HC2.out
    rw [h14] at hC2 hc2 ⊢
    obtain ⟨ad, rfl⟩ : ∃ ad, A2 = some ad := by
      obtain ⟨ad, h, _⟩ := hC2.2.2 (by omega)
      exact ⟨ad, h⟩
    have HS := Aside0.mk (sconf_calls (splitS s ⟨#[32]⟩) _ _ _ ad c2 w2 (HE.out.below HB2.out) hC2 hc2 rfl rfl rfl HSz.out)
    clear hC2 hc2
    go_wp2_with (fail)
    (with_reducible refine HS.out.mono ?_)
    rintro r w3 ⟨A3, c3, rfl, hR3, hb3⟩
    have HH : Aside0 (cfgOf ((splitS s ⟨#[32]⟩).getD 1 ByteArray.empty) ((splitS s ⟨#[32]⟩).getD 2 ByteArray.empty) ((splitS s ⟨#[32]⟩).drop 3) = cfgS s) := ⟨rfl⟩
    rw [HH.out] at hR3 ⊢
    have hw20 : w.heap.size < w2.heap.size := lt_of_some HX2.out
    have HRR := Aside0.mk (Kd.R_mono (ok' := fun k => w.heap.size < k) (Kd.R_bound hR3) (fun k hk => Nat.lt_of_lt_of_le hw20 hk.2.1))
    obtain ⟨_, hc3, hC3⟩ := Kd.R_reads' hR3
    clear hR3 hw20
    have hok := HOk.out
    have HR0 : Aside0 (confOk s = decide (nodeS (cfgS s) = s)) := ⟨by unfold confOk; rw [decide_eq_true h14]; rfl⟩
    have HK : Aside0 (confR s = (if confOk s = true then cfgS s else cfgZ) ∧ confE s = (if confOk s = true then 0 else 2)) := ⟨rfl, rfl⟩
    rw [HR0.out] at HK
    clear HS HH HOk HC2 HR0
    generalize cfgS s = cf at hC3 hc3 hok HK HRR ⊢
    have HSN := fun (W : World) (hW : Below w.heap.size w W) (hCW : Kd.C k37 W A3 cf.l1.length cf.l1) => snode_calls cf A3 c3 W (HE.out.below hW) hok hCW hc3
    generalize nodeS cf = nt at HK HSN
    obtain ⟨a0, a1, l1, b0, b1, b2, b3, b4, b5, p0, p1, p2, p3, p4⟩ := cf
    simp only [cfgV, cfgC] at HSN ⊢
    have HSN' := Aside0.mk HSN
    clear HSN
    have HX3 := Aside0.mk (blk_below HX2.out hb3)
    have HB3 := Aside0.mk (below_then HB2.out HB2.out.size hb3)
    have hlt3 : w.heap.size < w3.heap.size := lt_of_some HX3.out
    have HX4 := Aside0.mk (heap_step_alloc HX3.out hlt3 (.cells #[.string a0, .int .i64 a1, .slice A3 l1.length c3, .bool b0, .bool b1, .int .i64 b2, .int .i64 b3, .int .i64 b4, .int .i64 b5, .int .i64 p0, .int .i64 p1, .int .i64 p2, .int .i64 p3, .bool p4] 44 (0, 0)))
    have HB4 := Aside0.mk (below_alloc HB3.out (.cells #[.string a0, .int .i64 a1, .slice A3 l1.length c3, .bool b0, .bool b1, .int .i64 b2, .int .i64 b3, .int .i64 b4, .int .i64 b5, .int .i64 p0, .int .i64 p1, .int .i64 p2, .int .i64 p3, .bool p4] 44 (0, 0)))
    have HG4 := Aside0.mk (heap_alloc_new w3 (.cells #[.string a0, .int .i64 a1, .slice A3 l1.length c3, .bool b0, .bool b1, .int .i64 b2, .int .i64 b3, .int .i64 b4, .int .i64 b5, .int .i64 p0, .int .i64 p1, .int .i64 p2, .int .i64 p3, .bool p4] 44 (0, 0)))
    have HC4 := Aside0.mk (Kd.C_alloc hC3 (.cells #[.string a0, .int .i64 a1, .slice A3 l1.length c3, .bool b0, .bool b1, .int .i64 b2, .int .i64 b3, .int .i64 b4, .int .i64 b5, .int .i64 p0, .int .i64 p1, .int .i64 p2, .int .i64 p3, .bool p4] 44 (0, 0)))
    obtain ⟨w4, hw4⟩ : ∃ w4, w3.alloc (.cells #[.string a0, .int .i64 a1, .slice A3 l1.length c3, .bool b0, .bool b1, .int .i64 b2, .int .i64 b3, .int .i64 b4, .int .i64 b5, .int .i64 p0, .int .i64 p1, .int .i64 p2, .int .i64 p3, .bool p4] 44 (0, 0)) = w4 := ⟨_, rfl⟩
    rw [hw4] at HX4 HB4 HG4 HC4
    have HR4 := Aside0.mk (Kd.R_alloc HRR.out (.cells #[.string a0, .int .i64 a1, .slice A3 l1.length c3, .bool b0, .bool b1, .int .i64 b2, .int .i64 b3, .int .i64 b4, .int .i64 b5, .int .i64 p0, .int .i64 p1, .int .i64 p2, .int .i64 p3, .bool p4] 44 (0, 0)))
    rw [hw4] at HR4
    clear HX2 HB2 HX3 HB3 hC3 hb3 HRR
    obtain ⟨⟨k0, k1, k2, k3, k4, k5, k6⟩, k7, k8, k9, k10, k11, k12, k13⟩ := cells14 HG4.out
    go_wp2_with (fail)
    (with_reducible refine (HSN'.out _ HB4.out HC4.out).mono ?_)
    rintro r w5 ⟨rfl, hb5⟩
    have HX5 := Aside0.mk (blk_below HX4.out hb5)
    have HB5 := Aside0.mk (below_then HB4.out HB4.out.size hb5)
    have HG5 := Aside0.mk (blk_below HG4.out hb5)
    have HR5 := Aside0.mk (Kd.R_below HR4.out hb5)
    clear HX4 HB4 HG4 HC4 HR4 k0 k1 k2 k3 k4 k5 k6 k7 k8 k9 k10 k11 k12 k13 hw4 hb5 HSN'
    obtain ⟨⟨k0, k1, k2, k3, k4, k5, k6⟩, k7, k8, k9, k10, k11, k12, k13⟩ := cells14 HG5.out
    obtain ⟨⟨j0, j1, j2, j3, j4, j5, j6⟩, j7, j8, j9, j10, j11, j12, j13⟩ := cells14 HX5.out
    have f0 := Lib.frozen_of_heap HX5.out 0
    have f1 := Lib.frozen_of_heap HX5.out 1
    have f2 := Lib.frozen_of_heap HX5.out 2
    have f3 := Lib.frozen_of_heap HX5.out 3
    have f4 := Lib.frozen_of_heap HX5.out 4
    have f5 := Lib.frozen_of_heap HX5.out 5
    have f6 := Lib.frozen_of_heap HX5.out 6
    have f7 := Lib.frozen_of_heap HX5.out 7
    have f8 := Lib.frozen_of_heap HX5.out 8
    have f9 := Lib.frozen_of_heap HX5.out 9
    have f10 := Lib.frozen_of_heap HX5.out 10
    have f11 := Lib.frozen_of_heap HX5.out 11
    have f12 := Lib.frozen_of_heap HX5.out 12
    have f13 := Lib.frozen_of_heap HX5.out 13
    by_cases hq : nt = s
    · have HQ := Aside0.mk hq
      have hb : (nt.toList == s.toList) = true := by rw [hq]; exact beq_self_eq_true _
      clear hq
      go_wp2_with (fail)
      refine bodyPost_ret (results_ct rfl _ _ w.heap.size 44 #[.string a0, .int .i64 a1, .slice A3 l1.length c3, .bool b0, .bool b1, .int .i64 b2, .int .i64 b3, .int .i64 b4, .int .i64 b5, .int .i64 p0, .int .i64 p1, .int .i64 p2, .int .i64 p3, .bool p4] (0, 0) _ rfl ?hc Tryz.underlying44 rfl (by kernel_rfl)) rfl ?_
      case hc => exact set14_all HX5.out
      have h1 := HK.out
      rw [decide_eq_true HQ.out, if_pos rfl, if_pos rfl] at h1
      rw [h1.1, h1.2]
      exact ⟨A3, c3, rfl, (Kd.R_reads' (Kd.R_step HR5.out (fun k hk _ => set14_far (by have : w.heap.size < k := hk; omega) _ _ _ _ _ _ _ _ _ _ _ _ _ _))).2.2, hc3, set14_below HB5.out (Nat.le_refl _) _ _ _ _ _ _ _ _ _ _ _ _ _ _⟩
    · have HQ := Aside0.mk hq
      have hb : (nt.toList == s.toList) = false := toList_ne hq
      clear hq
      go_wp2_with (fail)
      refine bodyPost_ret (results_ct rfl _ _ w.heap.size 44 #[.string ⟨#[]⟩, .int .i64 0, .slice none 0 0, .bool false, .bool false, .int .i64 0, .int .i64 0, .int .i64 0, .int .i64 0, .int .i64 0, .int .i64 0, .int .i64 0, .int .i64 0, .bool false] (0, 0) _ rfl ?hc Tryz.underlying44 rfl (by kernel_rfl)) rfl ?_
      case hc => exact set14_all HX5.out
      have h1 := HK.out
      rw [decide_eq_false HQ.out, if_neg (by decide), if_neg (by decide)] at h1
      rw [h1.1, h1.2]
      exact ⟨none, 0, rfl, Kd.C_nil _ _, Nat.le_refl _, set14_below HB5.out (Nat.le_refl _) _ _ _ _ _ _ _ _ _ _ _ _ _ _⟩
end Go.Proofs.YtndgaeldndgioaaGreatDoor.QAll
end

section
/- squelchlaw30.config, walked by hand: a node as the document has it. -/
set_option linter.unusedVariables false
set_option linter.unusedSimpArgs false
namespace Go.Proofs.YtndgaeldndgioaaGreatDoor.QAll
open Go.RowKit Go.Proofs.YtndgaeldndgioaaGreatDoorW.PrintWords Go.Proofs.YtndgaeldndgioaaGreatDoorW.PrintLast Go.Proofs.YtndgaeldndgioaaGreatDoorW.PrintMore
theorem yes_calls (b : Bool) (w : World) : Calls Tryz.prog 45 #[.bool b] w fun e w' => e = .returned (.int .i64 (bitI b)) ∧ Below w.heap.size w w' := by
  cases b with
  | true =>
    go_enter Tryz.func45, Tryz.ntmps45
    go_wp2_with (fail)
    go_ret
    exact ⟨rfl, Below.refl _ _⟩
  | false =>
    go_enter Tryz.func45, Tryz.ntmps45
    go_wp2_with (fail)
    go_ret
    exact ⟨rfl, Below.refl _ _⟩
def z13 : Array Value := #[.string ⟨#[]⟩, .slice none 0 0, .int .i64 0, .int .i64 0, .int .i64 0, .int .i64 0, .int .i64 0, .int .i64 0, .int .i64 0, .int .i64 0, .int .i64 0, .int .i64 0, .int .i64 0]
theorem set13_all {W : World} {g : Nat} {v0 v1 v2 v3 v4 v5 v6 v7 v8 v9 v10 v11 v12 x0 x1 x2 x3 x4 x5 x6 x7 x8 x9 x10 x11 x12 : Value} {t : TypeId} (h : W.heap[g]? = some (.cells #[v0, v1, v2, v3, v4, v5, v6, v7, v8, v9, v10, v11, v12] t (0, 0))) : (((((((((((((W.setCell ⟨g, 0, none⟩ x0).setCell ⟨g, 1, none⟩ x1).setCell ⟨g, 2, none⟩ x2).setCell ⟨g, 3, none⟩ x3).setCell ⟨g, 4, none⟩ x4).setCell ⟨g, 5, none⟩ x5).setCell ⟨g, 6, none⟩ x6).setCell ⟨g, 7, none⟩ x7).setCell ⟨g, 8, none⟩ x8).setCell ⟨g, 9, none⟩ x9).setCell ⟨g, 10, none⟩ x10).setCell ⟨g, 11, none⟩ x11).setCell ⟨g, 12, none⟩ x12).heap[g]? = some (.cells #[x0, x1, x2, x3, x4, x5, x6, x7, x8, x9, x10, x11, x12] t (0, 0)) := by
  simp [World.setCell, Array.getElem?_modify, h]
theorem set13_far {W : World} {g i : Nat} (hne : i ≠ g) (x0 x1 x2 x3 x4 x5 x6 x7 x8 x9 x10 x11 x12 : Value) : (((((((((((((W.setCell ⟨g, 0, none⟩ x0).setCell ⟨g, 1, none⟩ x1).setCell ⟨g, 2, none⟩ x2).setCell ⟨g, 3, none⟩ x3).setCell ⟨g, 4, none⟩ x4).setCell ⟨g, 5, none⟩ x5).setCell ⟨g, 6, none⟩ x6).setCell ⟨g, 7, none⟩ x7).setCell ⟨g, 8, none⟩ x8).setCell ⟨g, 9, none⟩ x9).setCell ⟨g, 10, none⟩ x10).setCell ⟨g, 11, none⟩ x11).setCell ⟨g, 12, none⟩ x12).heap[i]? = W.heap[i]? := by
  simp [World.setCell, Array.getElem?_modify, Ne.symm hne]
theorem set13_below {B : Nat} {w W : World} {g : Nat} (hb : Below B w W) (hB : B ≤ g) (x0 x1 x2 x3 x4 x5 x6 x7 x8 x9 x10 x11 x12 : Value) : Below B w (((((((((((((W.setCell ⟨g, 0, none⟩ x0).setCell ⟨g, 1, none⟩ x1).setCell ⟨g, 2, none⟩ x2).setCell ⟨g, 3, none⟩ x3).setCell ⟨g, 4, none⟩ x4).setCell ⟨g, 5, none⟩ x5).setCell ⟨g, 6, none⟩ x6).setCell ⟨g, 7, none⟩ x7).setCell ⟨g, 8, none⟩ x8).setCell ⟨g, 9, none⟩ x9).setCell ⟨g, 10, none⟩ x10).setCell ⟨g, 11, none⟩ x11).setCell ⟨g, 12, none⟩ x12) :=
  ((((((((((((hb.setCell (p := ⟨g, 0, none⟩) hB x0).setCell (p := ⟨g, 1, none⟩) hB x1).setCell (p := ⟨g, 2, none⟩) hB x2).setCell (p := ⟨g, 3, none⟩) hB x3).setCell (p := ⟨g, 4, none⟩) hB x4).setCell (p := ⟨g, 5, none⟩) hB x5).setCell (p := ⟨g, 6, none⟩) hB x6).setCell (p := ⟨g, 7, none⟩) hB x7).setCell (p := ⟨g, 8, none⟩) hB x8).setCell (p := ⟨g, 9, none⟩) hB x9).setCell (p := ⟨g, 10, none⟩) hB x10).setCell (p := ⟨g, 11, none⟩) hB x11).setCell (p := ⟨g, 12, none⟩) hB x12
theorem set13_1 {W : World} {g : Nat} {v0 v1 v2 v3 v4 v5 v6 v7 v8 v9 v10 v11 v12 x : Value} {t : TypeId} (h : W.heap[g]? = some (.cells #[v0, v1, v2, v3, v4, v5, v6, v7, v8, v9, v10, v11, v12] t (0, 0))) : (W.setCell ⟨g, 1, none⟩ x).heap[g]? = some (.cells #[v0, x, v2, v3, v4, v5, v6, v7, v8, v9, v10, v11, v12] t (0, 0)) := by
  simp [World.setCell, Array.getElem?_modify, h]
theorem cells13 {w : World} {g : Nat} {v0 v1 v2 v3 v4 v5 v6 v7 v8 v9 v10 v11 v12 : Value} {t : TypeId} (h : w.heap[g]? = some (.cells #[v0, v1, v2, v3, v4, v5, v6, v7, v8, v9, v10, v11, v12] t (0, 0))) :
    w.cell? ⟨g, 0, none⟩ = some v0 ∧ w.cell? ⟨g, 1, none⟩ = some v1 ∧ w.cell? ⟨g, 2, none⟩ = some v2 ∧ w.cell? ⟨g, 3, none⟩ = some v3 ∧ w.cell? ⟨g, 4, none⟩ = some v4 ∧ w.cell? ⟨g, 5, none⟩ = some v5 ∧ w.cell? ⟨g, 6, none⟩ = some v6 ∧ w.cell? ⟨g, 7, none⟩ = some v7 ∧ w.cell? ⟨g, 8, none⟩ = some v8 ∧ w.cell? ⟨g, 9, none⟩ = some v9 ∧ w.cell? ⟨g, 10, none⟩ = some v10 ∧ w.cell? ⟨g, 11, none⟩ = some v11 ∧ w.cell? ⟨g, 12, none⟩ = some v12 := by
  simp [World.cell?, h]
abbrev SL (A : Option Addr) (l : List S37) (w0 : World) (v0 v1 v2 v3 v4 v5 v6 v7 v8 v9 v10 v11 v12 v13 : Value) (W : World) : Prop := Kd.C k37 W A l.length l ∧ W.heap[w0.heap.size + 1]? = some (.cells z13 55 (0, 0)) ∧ Below w0.heap.size w0 W ∧ W.heap[w0.heap.size]? = some (.cells #[v0, v1, v2, v3, v4, v5, v6, v7, v8, v9, v10, v11, v12, v13] 44 (0, 0)) ∧ W.cell? ⟨w0.heap.size, 0, none⟩ = some v0 ∧ W.cell? ⟨w0.heap.size, 1, none⟩ = some v1 ∧ W.cell? ⟨w0.heap.size, 2, none⟩ = some v2 ∧ W.cell? ⟨w0.heap.size, 3, none⟩ = some v3 ∧ W.cell? ⟨w0.heap.size, 4, none⟩ = some v4 ∧ W.cell? ⟨w0.heap.size, 5, none⟩ = some v5 ∧ W.cell? ⟨w0.heap.size, 6, none⟩ = some v6 ∧ W.cell? ⟨w0.heap.size, 7, none⟩ = some v7 ∧ W.cell? ⟨w0.heap.size, 8, none⟩ = some v8 ∧ W.cell? ⟨w0.heap.size, 9, none⟩ = some v9 ∧ W.cell? ⟨w0.heap.size, 10, none⟩ = some v10 ∧ W.cell? ⟨w0.heap.size, 11, none⟩ = some v11 ∧ W.cell? ⟨w0.heap.size, 12, none⟩ = some v12 ∧ W.cell? ⟨w0.heap.size, 13, none⟩ = some v13
theorem SL_call {A : Option Addr} {l : List S37} {w0 W W' : World} {v0 v1 v2 v3 v4 v5 v6 v7 v8 v9 v10 v11 v12 v13 : Value} (h : SL A l w0 v0 v1 v2 v3 v4 v5 v6 v7 v8 v9 v10 v11 v12 v13 W) (hb : Below W.heap.size W W') : SL A l w0 v0 v1 v2 v3 v4 v5 v6 v7 v8 v9 v10 v11 v12 v13 W' := ⟨Kd.C_below h.1 hb, blk_below h.2.1 hb, SX_call h.2.2 hb⟩
theorem SL_drew {A : Option Addr} {l : List S37} {w0 W : World} {v0 v1 v2 v3 v4 v5 v6 v7 v8 v9 v10 v11 v12 v13 : Value} (h : SL A l w0 v0 v1 v2 v3 v4 v5 v6 v7 v8 v9 v10 v11 v12 v13 W) : SL A l w0 v0 v1 v2 v3 v4 v5 v6 v7 v8 v9 v10 v11 v12 v13 W.drew := SL_call h (below_drew (Below.refl _ _))
theorem SL_alloc {A : Option Addr} {l : List S37} {w0 W : World} {v0 v1 v2 v3 v4 v5 v6 v7 v8 v9 v10 v11 v12 v13 : Value} (h : SL A l w0 v0 v1 v2 v3 v4 v5 v6 v7 v8 v9 v10 v11 v12 v13 W) (o : Obj) : SL A l w0 v0 v1 v2 v3 v4 v5 v6 v7 v8 v9 v10 v11 v12 v13 (W.alloc o) := SL_call h ((Below.refl _ _).alloc (Nat.le_refl _) o)
theorem zz_new {V w1 : World} {o : Obj} (h : Below (V.alloc o).heap.size (V.alloc o) w1) : w1.heap[V.heap.size]? = some o := blk_below (heap_alloc_new V o) h
theorem zz_newd {V w1 : World} {o : Obj} (h : Below (V.alloc o).drew.heap.size (V.alloc o).drew w1) : w1.heap[V.heap.size]? = some o := blk_below (w := (V.alloc o).drew) (show (V.alloc o).drew.heap[V.heap.size]? = some o from heap_alloc_new V o) h
theorem below_undrew {W w1 : World} (h : Below W.drew.heap.size W.drew w1) : Below W.heap.size W w1 := below_then (below_drew (Below.refl W.heap.size W)) (Nat.le_refl _) h
theorem SL_sets {A : Option Addr} {l : List S37} {w0 W : World} {v0 v1 v2 v3 v4 v5 v6 v7 v8 v9 v10 v11 v12 v13 : Value} (hr0 : Kd.C k37 w0 A l.length l) (h : SL A l w0 v0 v1 v2 v3 v4 v5 v6 v7 v8 v9 v10 v11 v12 v13 W) {g : Nat} (hg : w0.heap.size + 1 < g) (x0 x1 x2 x3 x4 x5 x6 x7 x8 x9 x10 x11 x12 : Value) : SL A l w0 v0 v1 v2 v3 v4 v5 v6 v7 v8 v9 v10 v11 v12 v13 (((((((((((((W.setCell ⟨g, 0, none⟩ x0).setCell ⟨g, 1, none⟩ x1).setCell ⟨g, 2, none⟩ x2).setCell ⟨g, 3, none⟩ x3).setCell ⟨g, 4, none⟩ x4).setCell ⟨g, 5, none⟩ x5).setCell ⟨g, 6, none⟩ x6).setCell ⟨g, 7, none⟩ x7).setCell ⟨g, 8, none⟩ x8).setCell ⟨g, 9, none⟩ x9).setCell ⟨g, 10, none⟩ x10).setCell ⟨g, 11, none⟩ x11).setCell ⟨g, 12, none⟩ x12) := by
  have hb := set13_below h.2.2.1 (Nat.le_of_lt (Nat.lt_trans (Nat.lt_succ_self _) hg)) x0 x1 x2 x3 x4 x5 x6 x7 x8 x9 x10 x11 x12
  exact ⟨Kd.C_below hr0 hb, (set13_far (by omega) x0 x1 x2 x3 x4 x5 x6 x7 x8 x9 x10 x11 x12).trans h.2.1, SX_mk hb ((set13_far (by omega) x0 x1 x2 x3 x4 x5 x6 x7 x8 x9 x10 x11 x12).trans h.2.2.2.1)⟩
set_option maxHeartbeats 8000000 in
set_option maxRecDepth 100000 in
theorem lawconf_calls (a0 : ByteArray) (a1 : Int) (A : Option Addr) (n : Nat) (l1 : List S37) (b0 b1 : Bool) (b2 b3 b4 b5 p0 p1 p2 p3 : Int) (p4 : Bool) (w : World)
    (hr : Kd.C k37 w A l1.length l1) (hn : l1.length ≤ n) (hl : l1.length ≤ 1000) (ht : ∀ d ∈ (⟨a0, a1⟩ : S37) :: l1, squelchref04_Text.f d.f0 d.f1 = some (callT d)) :
    Calls Tryz.prog 14 #[.agg #[.string a0, .int .i64 a1, .slice A l1.length n, .bool b0, .bool b1, .int .i64 b2, .int .i64 b3, .int .i64 b4, .int .i64 b5, .int .i64 p0, .int .i64 p1, .int .i64 p2, .int .i64 p3, .bool p4]] w fun e w' => ∃ A2 n2, e = .returned (.agg #[.string (callT ⟨a0, a1⟩), .slice A2 l1.length n2, .int .i64 (bitI b0), .int .i64 (bitI b1), .int .i64 b2, .int .i64 b3, .int .i64 b4, .int .i64 b5, .int .i64 p0, .int .i64 p1, .int .i64 p2, .int .i64 p3, .int .i64 (bitI p4)]) ∧ Kd.R Kd.string 9 w' w.heap.size (fun _ => True) (.slice A2 l1.length n2) (l1.map callT) ∧ Below w.heap.size w w' := by
  have HT := Aside0.mk ht
  have hS : SL A l1 w (.string a0) (.int .i64 a1) (.slice A l1.length n) (.bool b0) (.bool b1) (.int .i64 b2) (.int .i64 b3) (.int .i64 b4) (.int .i64 b5) (.int .i64 p0) (.int .i64 p1) (.int .i64 p2) (.int .i64 p3) (.bool p4) ((w.alloc (.cells #[.string a0, .int .i64 a1, .slice A l1.length n, .bool b0, .bool b1, .int .i64 b2, .int .i64 b3, .int .i64 b4, .int .i64 b5, .int .i64 p0, .int .i64 p1, .int .i64 p2, .int .i64 p3, .bool p4] 44 (0, 0))).alloc (.cells z13 55 (0, 0))) := by
    have hb : Below w.heap.size w ((w.alloc (.cells #[.string a0, .int .i64 a1, .slice A l1.length n, .bool b0, .bool b1, .int .i64 b2, .int .i64 b3, .int .i64 b4, .int .i64 b5, .int .i64 p0, .int .i64 p1, .int .i64 p2, .int .i64 p3, .bool p4] 44 (0, 0))).alloc (.cells z13 55 (0, 0))) := ((Below.refl _ _).alloc (Nat.le_refl _) _).alloc (by simp) _
    refine ⟨Kd.C_below hr hb, ?_, SX_mk hb ((Below.heap_alloc _ _ _ (by simp)).trans (heap_alloc_new _ _))⟩
    have := heap_alloc_new (w.alloc (.cells #[.string a0, .int .i64 a1, .slice A l1.length n, .bool b0, .bool b1, .int .i64 b2, .int .i64 b3, .int .i64 b4, .int .i64 b5, .int .i64 p0, .int .i64 p1, .int .i64 p2, .int .i64 p3, .bool p4] 44 (0, 0))) (.cells z13 55 (0, 0))
    rw [World.size_alloc] at this
    exact this
  have ht0 := ht _ (List.mem_cons_self ..)
  have HT0 := Aside0.mk ht0
  have HR0 := Aside0.mk hr
  clear hr ht ht0
  go_enter Tryz.func14, Tryz.ntmps14
  go_wp2_with (fail)
  have q25 := Aside0.mk hS
  obtain ⟨w1, hw1⟩ : ∃ w1, (w.alloc (.cells #[.string a0, .int .i64 a1, .slice A l1.length n, .bool b0, .bool b1, .int .i64 b2, .int .i64 b3, .int .i64 b4, .int .i64 b5, .int .i64 p0, .int .i64 p1, .int .i64 p2, .int .i64 p3, .bool p4] 44 (0, 0))).alloc (.cells z13 55 (0, 0)) = w1 := ⟨_, rfl⟩
  rw [hw1] at hS q25
  unfold z13 at hw1
  rw [hw1]
  clear hw1
  go_upto_region 2 with (fail)
  go_cut [4] from 5 (fun v4 wx => ∃ g, v4 = .pointer (some ⟨g, 0, none⟩) ∧ w.heap.size + 1 < g ∧ Aside0 (wx.heap[g]? = some (.cells #[.string (callT ⟨a0, a1⟩), .slice none 0 0, .int .i64 (bitI b0), .int .i64 (bitI b1), .int .i64 b2, .int .i64 b3, .int .i64 b4, .int .i64 b5, .int .i64 p0, .int .i64 p1, .int .i64 p2, .int .i64 p3, .int .i64 (bitI p4)] 55 (0, 0))) ∧ Aside0 (SL A l1 w (.string a0) (.int .i64 a1) (.slice A l1.length n) (.bool b0) (.bool b1) (.int .i64 b2) (.int .i64 b3) (.int .i64 b4) (.int .i64 b5) (.int .i64 p0) (.int .i64 p1) (.int .i64 p2) (.int .i64 p3) (.bool p4) wx))
  case first =>
    have hSS := hS
    clear hS
    go_region_held3 (fun w' => Kd.C k37 w' A l1.length l1 ∧ w'.heap[w.heap.size + 1]? = some (.cells z13 55 (0, 0)) ∧ Below w.heap.size w w' ∧ w'.heap[w.heap.size]? = some (.cells #[.string a0, .int .i64 a1, .slice A l1.length n, .bool b0, .bool b1, .int .i64 b2, .int .i64 b3, .int .i64 b4, .int .i64 b5, .int .i64 p0, .int .i64 p1, .int .i64 p2, .int .i64 p3, .bool p4] 44 (0, 0)) ∧ w'.cell? ⟨w.heap.size, 0, none⟩ = some (.string a0) ∧ w'.cell? ⟨w.heap.size, 1, none⟩ = some (.int .i64 a1) ∧ w'.cell? ⟨w.heap.size, 2, none⟩ = some (.slice A l1.length n) ∧ w'.cell? ⟨w.heap.size, 3, none⟩ = some (.bool b0) ∧ w'.cell? ⟨w.heap.size, 4, none⟩ = some (.bool b1) ∧ w'.cell? ⟨w.heap.size, 5, none⟩ = some (.int .i64 b2) ∧ w'.cell? ⟨w.heap.size, 6, none⟩ = some (.int .i64 b3) ∧ w'.cell? ⟨w.heap.size, 7, none⟩ = some (.int .i64 b4) ∧ w'.cell? ⟨w.heap.size, 8, none⟩ = some (.int .i64 b5) ∧ w'.cell? ⟨w.heap.size, 9, none⟩ = some (.int .i64 p0) ∧ w'.cell? ⟨w.heap.size, 10, none⟩ = some (.int .i64 p1) ∧ w'.cell? ⟨w.heap.size, 11, none⟩ = some (.int .i64 p2) ∧ w'.cell? ⟨w.heap.size, 12, none⟩ = some (.int .i64 p3) ∧ w'.cell? ⟨w.heap.size, 13, none⟩ = some (.bool p4)) (first | with_reducible exact SL_sets HR0.out (by assumption) hgg _ _ _ _ _ _ _ _ _ _ _ _ _ | exact SL_call (by assumption) h25 | exact SL_alloc (by assumption) _ | exact SL_drew (by assumption) | with_reducible exact SL_alloc q25.out _ | assumption) (first | (go_at_call 46; (with_reducible refine (squelchref04_Text.calls a0 a1 (callT ⟨a0, a1⟩) _ HT0.out).mono ?_); rintro r w25 ⟨rfl, h25⟩; (first | (with_reducible (have zz := zz_new h25); have hgg := lt_of_some q25.out.2.1) | (with_reducible (have zz := zz_newd h25); have hgg := lt_of_some q25.out.2.1) | with_reducible (have zz := blk_below zz h25) | skip); have q25 : Aside0 (SL A l1 w (.string a0) (.int .i64 a1) (.slice A l1.length n) (.bool b0) (.bool b1) (.int .i64 b2) (.int .i64 b3) (.int .i64 b4) (.int .i64 b5) (.int .i64 p0) (.int .i64 p1) (.int .i64 p2) (.int .i64 p3) (.bool p4) w25) := ⟨SL_call (by assumption) h25⟩; (first | (with_reducible (have yy := cells13 zz); have fzz := fun i => Lib.frozen_of_heap zz i) | skip)) | (go_at_call 45; (with_reducible refine (yes_calls _ _).mono ?_); rintro r w25 ⟨rfl, h25⟩; (first | (with_reducible (have zz := zz_new h25); have hgg := lt_of_some q25.out.2.1) | (with_reducible (have zz := zz_newd h25); have hgg := lt_of_some q25.out.2.1) | with_reducible (have zz := blk_below zz h25) | skip); have q25 : Aside0 (SL A l1 w (.string a0) (.int .i64 a1) (.slice A l1.length n) (.bool b0) (.bool b1) (.int .i64 b2) (.int .i64 b3) (.int .i64 b4) (.int .i64 b5) (.int .i64 p0) (.int .i64 p1) (.int .i64 p2) (.int .i64 p3) (.bool p4) w25) := ⟨SL_call (by assumption) h25⟩; (first | (with_reducible (have yy := cells13 zz); have fzz := fun i => Lib.frozen_of_heap zz i) | skip)))
    all_goals first | (go_wp2_with (fail); go_meet; exact ⟨_, rfl, hgg, ⟨set13_all zz⟩, ⟨by assumption⟩⟩) | (go_wp2_with (fail); go_meet; exact ⟨_, rfl, lt_of_some q25.out.2.1, ⟨heap_alloc_new _ _⟩, ⟨by assumption⟩⟩)
  case rest =>
    obtain ⟨g, hv4, hgg, HG, HSL⟩ := hcut
    subst hv4
    clear hS q25
    obtain ⟨s1, s2, s3, s4, k0, k1, k2, k3, k4, k5, k6, k7, k8, k9, k10, k11, k12, k13⟩ := HSL.out
    go_wp2_with (fail)
    clear s1 s2 s3 s4 k0 k1 k2 k3 k4 k5 k6 k7 k8 k9 k10 k11 k12 k13
    go_loopw [54] (fun v54 wr => ∃ (i : Nat) (v2 : Value), i ≤ l1.length ∧ v54 = .int .i64 i ∧ Aside0 (Kd.R Kd.string 9 wr w.heap.size (fun k => k ≠ g ∧ w.heap.size + 2 ≤ k) v2 ((l1.take i).map callT)) ∧ Aside0 (wr.heap[g]? = some (.cells #[.string (callT ⟨a0, a1⟩), v2, .int .i64 (bitI b0), .int .i64 (bitI b1), .int .i64 b2, .int .i64 b3, .int .i64 b4, .int .i64 b5, .int .i64 p0, .int .i64 p1, .int .i64 p2, .int .i64 p3, .int .i64 (bitI p4)] 55 (0, 0))) ∧ Aside0 (SL A l1 w (.string a0) (.int .i64 a1) (.slice A l1.length n) (.bool b0) (.bool b1) (.int .i64 b2) (.int .i64 b3) (.int .i64 b4) (.int .i64 b5) (.int .i64 p0) (.int .i64 p1) (.int .i64 p2) (.int .i64 p3) (.bool p4) wr)) (fun v54 _ => l1.length - (intOf v54).toNat)
    case atStart => exact ⟨0, _, by omega, rfl, ⟨Kd.R_nil _ _ _ _ _⟩, HG, HSL⟩
    case round =>
      clear HG HSL
      obtain ⟨i, v2, hi, rfl, HR1, HGr, HSr⟩ := hrel
      by_cases hlt : i < l1.length
      · obtain ⟨ad, hA', hx0, hx1⟩ := at_T37 HSr.out.1 (i : Int) (by omega) (by omega)
        subst hA'
        rw [Int.toNat_natCast] at hx0 hx1
        have hd : rd_T37 l1 (i : Int) = l1[i]'hlt := by
          unfold rd_T37
          rw [Int.toNat_natCast, List.getD_eq_getElem?_getD, List.getElem?_eq_getElem hlt]
          rfl
        rw [hd] at hx0 hx1
        have HTi := Aside0.mk (HT.out _ (List.mem_cons_of_mem _ (List.getElem_mem hlt)))
        go_upto_region 6 with (fail)
        have HQ8 := Aside0.mk (SL_alloc HSr.out (.cells #[.string (l1[i]'hlt).f0, .int .i64 (l1[i]'hlt).f1] 37 (0, 0)))
        have HR8 := Aside0.mk (Kd.R_alloc HR1.out (.cells #[.string (l1[i]'hlt).f0, .int .i64 (l1[i]'hlt).f1] 37 (0, 0)))
        have HG8 := Aside0.mk (heap_step_alloc HGr.out (lt_of_some HGr.out) (.cells #[.string (l1[i]'hlt).f0, .int .i64 (l1[i]'hlt).f1] 37 (0, 0)))
        have HA8 := Aside0.mk (heap_alloc_new wr (.cells #[.string (l1[i]'hlt).f0, .int .i64 (l1[i]'hlt).f1] 37 (0, 0)))
        obtain ⟨w8, hw8⟩ : ∃ w8, wr.alloc (.cells #[.string (l1[i]'hlt).f0, .int .i64 (l1[i]'hlt).f1] 37 (0, 0)) = w8 := ⟨_, rfl⟩
        rw [hw8] at HQ8 HR8 HG8 HA8
        rw [hw8]
        clear hw8 HSr HR1 HGr
        obtain ⟨j0, j1, _, _⟩ := two_cell HA8.out
        obtain ⟨_, g1, _, _, _, _, _, _, _, _, _, _, _⟩ := cells13 HG8.out
        go_region_law (first | (refine Kd.R_append_step Kd.string (w0 := w) w.heap.size rfl (.tmp 59) (.tmp 62) 52 9 (.string ⟨#[]⟩) 16 rfl Tryz.underlying52 info9 rfl (by decide) (by omega) v2 ((l1.take i).map callT) (callT (l1[i]'hlt)) [.string (callT (l1[i]'hlt))] (fun k => k ≠ g ∧ w.heap.size + 2 ≤ k) (fun _ => False) rfl rfl rfl (fun _ hk => hk.elim) (fun k hk => ⟨by have := lt_of_some HG25.out; omega, by have := lt_of_some HQ25.out.2.1; omega⟩) HR25.out HQ25.out.2.2.1 HQ25.out.2.2.1.size (by simp; omega) ?_; intro v1 wd ho hbd hgd hat; obtain ⟨A1, c1, hv1, hc1, _⟩ := Kd.R_reads ho; (have hl1 : (List.map callT (List.take i l1) ++ [callT (l1[i]'hlt)]).length = i + 1 := (by simp; omega)); rw [hl1] at hv1 hc1; subst hv1; have hhd := (hgd.block _ (lt_of_some HG25.out) (fun e => (HR25.out.1 _ e.symm).1 rfl)).trans HG25.out; have kd1 := (cells13 hhd).2.1; have fd1 := Lib.frozen_of_heap hhd 1) | (go_simp; go_at_call 46; (with_reducible refine (squelchref04_Text.calls (l1[i]'hlt).f0 (l1[i]'hlt).f1 (callT (l1[i]'hlt)) _ HTi.out).mono ?_); rintro r w25 ⟨rfl, h25⟩; have hb25 : Below w8.heap.size w8 w25 := (by first | exact h25 | exact below_undrew h25); have HQ25 := Aside0.mk (SL_call HQ8.out hb25); have HR25 := Aside0.mk (Kd.R_below HR8.out hb25); have HG25 := Aside0.mk (blk_below HG8.out hb25); have g25 := (cells13 HG25.out).2.1; have g26 := (cells13 (heap_step_alloc HG25.out (lt_of_some HG25.out) (.cells #[.string (callT (l1[i]'hlt))] 9 (0, 0)))).2.1; (try dsimp only)))
        all_goals (go_wp2_with (fail); go_roundw)
        all_goals first
          | (simp [intOf]; omega)
          | (refine ⟨i + 1, _, by omega, rfl, ⟨?_⟩, ⟨set13_1 hhd⟩, ⟨?_⟩⟩
             · rw [List.take_add_one, List.getElem?_eq_getElem hlt, Option.toList_some, List.map_append, List.map_cons, List.map_nil]
               exact Kd.R_step ho (fun k hk _ => Below.heap_setCell _ _ _ _ (show k ≠ g from hk.1))
             · have hbs := hbd.setCell (p := ⟨g, 1, none⟩) (by show w.heap.size ≤ g; omega) (.slice A1 (i + 1) c1)
               have q1 := (Below.heap_setCell wd ⟨g, 1, none⟩ (.slice A1 (i + 1) c1) (w.heap.size + 1) (by show w.heap.size + 1 ≠ g; omega)).trans ((hgd.block _ (lt_of_some HQ25.out.2.1) (fun e => by have := (HR25.out.1 _ e.symm).2; omega)).trans HQ25.out.2.1)
               have q0 := (Below.heap_setCell wd ⟨g, 1, none⟩ (.slice A1 (i + 1) c1) w.heap.size (by show w.heap.size ≠ g; omega)).trans ((hgd.block _ (lt_of_some HQ25.out.2.2.2.1) (fun e => by have := (HR25.out.1 _ e.symm).2; omega)).trans HQ25.out.2.2.2.1)
               exact ⟨Kd.C_below HR0.out hbs, q1, SX_mk hbs q0⟩)
      · obtain rfl : i = l1.length := by omega
        obtain ⟨A2, n2, hv2, hn2, _⟩ := Kd.R_reads HR1.out
        rw [List.take_length, List.length_map] at hv2
        subst hv2
        obtain ⟨j0, j1, j2, j3, j4, j5, j6, j7, j8, j9, j10, j11, j12⟩ := cells13 HGr.out
        have hz1 := HSr.out.2.1
        unfold z13 at hz1
        obtain ⟨m0, m1, m2, m3, m4, m5, m6, m7, m8, m9, m10, m11, m12⟩ := cells13 hz1
        have f0 := Lib.frozen_of_heap hz1 0
        have f1 := Lib.frozen_of_heap hz1 1
        have f2 := Lib.frozen_of_heap hz1 2
        have f3 := Lib.frozen_of_heap hz1 3
        have f4 := Lib.frozen_of_heap hz1 4
        have f5 := Lib.frozen_of_heap hz1 5
        have f6 := Lib.frozen_of_heap hz1 6
        have f7 := Lib.frozen_of_heap hz1 7
        have f8 := Lib.frozen_of_heap hz1 8
        have f9 := Lib.frozen_of_heap hz1 9
        have f10 := Lib.frozen_of_heap hz1 10
        have f11 := Lib.frozen_of_heap hz1 11
        have f12 := Lib.frozen_of_heap hz1 12
        have HZ1 := Aside0.mk hz1
        clear hz1
        go_wp2_with (fail)
        refine bodyPost_ret (results_cell_row rfl _ _ (w.heap.size + 1) 55 #[.string (callT ⟨a0, a1⟩), .slice A2 l1.length n2, .int .i64 (bitI b0), .int .i64 (bitI b1), .int .i64 b2, .int .i64 b3, .int .i64 b4, .int .i64 b5, .int .i64 p0, .int .i64 p1, .int .i64 p2, .int .i64 p3, .int .i64 (bitI p4)] (0, 0) _ rfl ?hc Tryz.underlying55 rfl (by kernel_rfl)) rfl ?_
        case hc => exact set13_all HZ1.out
        have h1 := HR1.out
        rw [List.take_length] at h1
        exact ⟨A2, n2, rfl, Kd.R_mono (Kd.R_step h1 (fun k hk _ => set13_far (by have := hk.2; omega) _ _ _ _ _ _ _ _ _ _ _ _ _)) (fun _ _ => trivial), set13_below HSr.out.2.2.1 (Nat.le_succ _) _ _ _ _ _ _ _ _ _ _ _ _ _⟩
end Go.Proofs.YtndgaeldndgioaaGreatDoor.QAll
end

section
/- squelchref30.Line, walked by hand: the line of a node as the document has it. -/
set_option linter.unusedVariables false
set_option linter.unusedSimpArgs false
namespace Go.Proofs.YtndgaeldndgioaaGreatDoor.QAll
open Go.RowKit Go.Proofs.YtndgaeldndgioaaGreatDoorW.PrintWords Go.Proofs.YtndgaeldndgioaaGreatDoorW.PrintLast Go.Proofs.YtndgaeldndgioaaGreatDoorW.PrintMore
def lstep (i : Nat) (s x : ByteArray) : ByteArray := if 0 < i then (s ++ (⟨#[44]⟩ : ByteArray)) ++ x else s ++ x
def lacc (ws : List ByteArray) (s : ByteArray) : Nat → ByteArray
  | 0 => s
  | i + 1 => lstep i (lacc ws s i) (ws.getD i ByteArray.empty)
def nacc (ns : List Int) (s : ByteArray) : Nat → ByteArray
  | 0 => s
  | i + 1 => nacc ns s i ++ ((⟨#[32]⟩ : ByteArray) ++ itoaB (ns.getD i 0))
def lpre (tc : ByteArray) : ByteArray := ((⟨#[78, 79, 68, 69, 32]⟩ : ByteArray) ++ tc) ++ (⟨#[32]⟩ : ByteArray)
def lmid (tc : ByteArray) (ws : List ByteArray) : ByteArray := if ws = [] then lpre tc ++ (⟨#[45]⟩ : ByteArray) else lacc ws (lpre tc) ws.length
def lineS (tc : ByteArray) (ws : List ByteArray) (ns : List Int) : ByteArray := nacc ns (lmid tc ws) 11
theorem lacc_size (ws : List ByteArray) (s : ByteArray) (hs : ∀ x ∈ ws, x.size ≤ 1000) : ∀ i, (lacc ws s i).size ≤ s.size + 1001 * i
  | 0 => Nat.le_refl _
  | i + 1 => by
    have h := lacc_size ws s hs i
    have hx : (ws.getD i ByteArray.empty).size ≤ 1000 := by
      rw [List.getD_eq_getElem?_getD]
      cases h : ws[i]? with
      | none => decide
      | some x => exact hs x (List.mem_of_getElem? h)
    have h1 : (⟨#[44]⟩ : ByteArray).size = 1 := rfl
    unfold lacc lstep
    split
    · rw [ByteArray.size_append, ByteArray.size_append]; omega
    · rw [ByteArray.size_append]; omega
theorem nacc_size (ns : List Int) (s : ByteArray) (hs : ∀ x ∈ ns, 0 ≤ x ∧ x ≤ 999) : ∀ i, (nacc ns s i).size ≤ s.size + 6 * i
  | 0 => Nat.le_refl _
  | i + 1 => by
    have h := nacc_size ns s hs i
    have hx : 0 ≤ ns.getD i 0 ∧ ns.getD i 0 ≤ 999 := by
      rw [List.getD_eq_getElem?_getD]
      cases h : ns[i]? with
      | none => decide
      | some x => exact hs x (List.mem_of_getElem? h)
    have h2 := Pure.num_size (ns.getD i 0) (by omega) (by omega)
    have h1 : (⟨#[32]⟩ : ByteArray).size = 1 := rfl
    unfold nacc
    rw [ByteArray.size_append, ByteArray.size_append]
    omega
theorem num_f (x : Int) (h : 0 ≤ x ∧ x ≤ 999) : squelchref30_num.f 8 x = some ((⟨#[32]⟩ : ByteArray) ++ itoaB x) := by
  unfold squelchref30_num.f
  rw [Pure.num_dig x (by omega) (by omega), Option.bind_some, if_pos]
  have := Pure.num_size x (by omega) (by omega)
  omega
theorem ten_cell {w : World} {g : Nat} {u v n0 n1 n2 n3 n4 n5 n6 n7 n8 n9 n10 : Value} {t : TypeId} (h : w.heap[g]? = some (.cells #[u, v, n0, n1, n2, n3, n4, n5, n6, n7, n8, n9, n10] t (0, 0))) (i : Nat) (hi : i < 11) : w.cell? ⟨g, 2 + i, none⟩ = some ([n0, n1, n2, n3, n4, n5, n6, n7, n8, n9, n10].getD i undef) := by
  rcases (show i = 0 ∨ i = 1 ∨ i = 2 ∨ i = 3 ∨ i = 4 ∨ i = 5 ∨ i = 6 ∨ i = 7 ∨ i = 8 ∨ i = 9 ∨ i = 10 by omega) with rfl | rfl | rfl | rfl | rfl | rfl | rfl | rfl | rfl | rfl | rfl <;> simp [World.cell?, h]
structure QL (w0 : World) (A : Option Addr) (ws : List ByteArray) (cs : Array Value) (W : World) : Prop where
  l : Kd.C Kd.string W A ws.length ws
  b : Below w0.heap.size w0 W
  h : W.heap[w0.heap.size]? = some (.cells cs 55 (0, 0))
theorem QL_call {w0 W W' : World} {A : Option Addr} {l : List ByteArray} {cs : Array Value} (h : QL w0 A l cs W) (hb : Below W.heap.size W W') : QL w0 A l cs W' :=
  ⟨Kd.C_below h.l hb, below_then h.b h.b.size hb, blk_below h.h hb⟩
set_option maxHeartbeats 8000000 in
set_option maxRecDepth 100000 in
theorem rline_calls (tc : ByteArray) (A : Option Addr) (n : Nat) (ws : List ByteArray) (n0 n1 n2 n3 n4 n5 n6 n7 n8 n9 n10 : Int) (w : World)
    (hr : Kd.C Kd.string w A ws.length ws) (hn : ws.length ≤ n) (hl : ws.length ≤ 1000) (ht : tc.size ≤ 1000) (hs : ∀ x ∈ ws, x.size ≤ 1000) (hi : ∀ x ∈ [n0, n1, n2, n3, n4, n5, n6, n7, n8, n9, n10], 0 ≤ x ∧ x ≤ 999) :
    Calls Tryz.prog 13 #[.agg #[.string tc, .slice A ws.length n, .int .i64 n0, .int .i64 n1, .int .i64 n2, .int .i64 n3, .int .i64 n4, .int .i64 n5, .int .i64 n6, .int .i64 n7, .int .i64 n8, .int .i64 n9, .int .i64 n10]] w fun e w' => e = .returned (.string (lineS tc ws [n0, n1, n2, n3, n4, n5, n6, n7, n8, n9, n10])) ∧ Below w.heap.size w w' := by
  have HQ : Aside0 (QL w A ws #[.string tc, .slice A ws.length n, .int .i64 n0, .int .i64 n1, .int .i64 n2, .int .i64 n3, .int .i64 n4, .int .i64 n5, .int .i64 n6, .int .i64 n7, .int .i64 n8, .int .i64 n9, .int .i64 n10] (w.alloc (.cells #[.string tc, .slice A ws.length n, .int .i64 n0, .int .i64 n1, .int .i64 n2, .int .i64 n3, .int .i64 n4, .int .i64 n5, .int .i64 n6, .int .i64 n7, .int .i64 n8, .int .i64 n9, .int .i64 n10] 55 (0, 0)))) := by
    have hb : Below w.heap.size w (w.alloc (.cells #[.string tc, .slice A ws.length n, .int .i64 n0, .int .i64 n1, .int .i64 n2, .int .i64 n3, .int .i64 n4, .int .i64 n5, .int .i64 n6, .int .i64 n7, .int .i64 n8, .int .i64 n9, .int .i64 n10] 55 (0, 0))) := (Below.refl _ _).alloc (Nat.le_refl _) _
    exact ⟨Kd.C_below hr hb, hb, heap_alloc_new _ _⟩
  have HS := Aside0.mk hs
  have HI := Aside0.mk hi
  clear hr hs hi
  have z1 : (⟨#[78, 79, 68, 69, 32]⟩ : ByteArray).size = 5 := rfl
  have z2 : (⟨#[32]⟩ : ByteArray).size = 1 := rfl
  have z3 : (⟨#[45]⟩ : ByteArray).size = 1 := rfl
  have z4 : (⟨#[44]⟩ : ByteArray).size = 1 := rfl
  have hp5 : (lpre tc).size = tc.size + 6 := by unfold lpre; rw [ByteArray.size_append, ByteArray.size_append]; omega
  have c1 : (⟨#[78, 79, 68, 69, 32]⟩ : ByteArray).size + tc.size ≤ 9223372036854775807 := by omega
  have c2 : ((⟨#[78, 79, 68, 69, 32]⟩ : ByteArray) ++ tc).size + (⟨#[32]⟩ : ByteArray).size ≤ 9223372036854775807 := by rw [ByteArray.size_append]; omega
  go_enter Tryz.func13, Tryz.ntmps13
  obtain ⟨w1, hw1⟩ : ∃ w1, w.alloc (.cells #[.string tc, .slice A ws.length n, .int .i64 n0, .int .i64 n1, .int .i64 n2, .int .i64 n3, .int .i64 n4, .int .i64 n5, .int .i64 n6, .int .i64 n7, .int .i64 n8, .int .i64 n9, .int .i64 n10] 55 (0, 0)) = w1 := ⟨_, rfl⟩
  rw [hw1] at HQ
  obtain ⟨k0, k1, k2, k3, k4, k5, k6, k7, k8, k9, k10, k11, k12⟩ := cells13 HQ.out.h
  go_wp2_with (fail)
  have HW : Aside0 (((⟨#[78, 79, 68, 69, 32]⟩ : ByteArray) ++ tc) ++ (⟨#[32]⟩ : ByteArray) = lpre tc) := ⟨rfl⟩
  clear k0 k1 k2 k3 k4 k5 k6 k7 k8 k9 k10 k11 k12 hw1
  go_loopw [3, 4] (fun v3 v4 wr => ∃ i : Nat, i ≤ ws.length ∧ v3 = .string (lacc ws (lpre tc) i) ∧ v4 = .int .i64 i ∧ Aside0 (QL w A ws #[.string tc, .slice A ws.length n, .int .i64 n0, .int .i64 n1, .int .i64 n2, .int .i64 n3, .int .i64 n4, .int .i64 n5, .int .i64 n6, .int .i64 n7, .int .i64 n8, .int .i64 n9, .int .i64 n10] wr)) (fun _ v4 _ => ws.length - (intOf v4).toNat)
  case atStart => exact ⟨0, by omega, by rw [HW.out]; rfl, rfl, HQ⟩
  case round =>
    clear HQ
    obtain ⟨i, hi, rfl, rfl, HQr⟩ := hrel
    have hsz := lacc_size ws (lpre tc) HS.out i
    obtain ⟨k0, k1, k2, k3, k4, k5, k6, k7, k8, k9, k10, k11, k12⟩ := cells13 HQr.out.h
    by_cases hlt : i < ws.length
    · obtain ⟨ad, hA', hx⟩ := Kd.at_string HQr.out.l (i : Int) (by omega) (by omega)
      subst hA'
      have hgd : rdOf ByteArray.empty ws (i : Int) = ws.getD i ByteArray.empty := by
        unfold rdOf
        rw [Int.toNat_natCast]
      rw [Int.toNat_natCast, hgd] at hx
      have hzx : (ws.getD i ByteArray.empty).size ≤ 1000 := by
        rw [List.getD_eq_getElem?_getD, List.getElem?_eq_getElem hlt]
        exact HS.out _ (List.getElem_mem hlt)
      have HL : Aside0 (lacc ws (lpre tc) (i + 1) = lstep i (lacc ws (lpre tc) i) (ws.getD i ByteArray.empty)) := ⟨rfl⟩
      generalize ws.getD i ByteArray.empty = x at hx hzx HL
      generalize lacc ws (lpre tc) i = acc at HL hsz ⊢
      by_cases h0 : 0 < i
      · have hb0 : ((0 : Int) < (i : Int)) = True := eq_true (by omega)
        have c3 : acc.size + 1 ≤ 9223372036854775807 := by omega
        have c4 : acc.size + (⟨#[44]⟩ : ByteArray).size ≤ 9223372036854775807 := by omega
        have c5 : (acc ++ (⟨#[44]⟩ : ByteArray)).size + x.size ≤ 9223372036854775807 := by rw [ByteArray.size_append]; omega
        have c6 : acc.size + 1 + x.size ≤ 9223372036854775807 := by omega
        go_wp2_with (fail)
        go_roundw
        case rel => exact ⟨i + 1, by omega, by rw [HL.out]; unfold lstep; rw [if_pos h0], rfl, HQr⟩
        case measure => simp [intOf]; omega
      · have hb0 : ((0 : Int) < (i : Int)) = False := eq_false (by omega)
        have c5 : acc.size + x.size ≤ 9223372036854775807 := by omega
        go_wp2_with (fail)
        go_roundw
        case rel => exact ⟨i + 1, by omega, by rw [HL.out]; unfold lstep; rw [if_neg h0], rfl, HQr⟩
        case measure => simp [intOf]; omega
    · obtain rfl : i = ws.length := by omega
      have HM : Aside0 (lmid tc ws = if ws = [] then lpre tc ++ (⟨#[45]⟩ : ByteArray) else lacc ws (lpre tc) ws.length) := ⟨rfl⟩
      go_upto_if 31 with (fail)
      go_cut [3] from 4 (fun v3 wx => v3 = .string (lmid tc ws) ∧ Aside0 (QL w A ws #[.string tc, .slice A ws.length n, .int .i64 n0, .int .i64 n1, .int .i64 n2, .int .i64 n3, .int .i64 n4, .int .i64 n5, .int .i64 n6, .int .i64 n7, .int .i64 n8, .int .i64 n9, .int .i64 n10] wx))
      case first =>
        have hz : (lacc ws (lpre tc) ws.length).size ≤ 10000000 := by omega
        by_cases he : ws.length = 0
        · have hb : (((ws.length : Nat) : Int) == 0) = true := beq_iff_eq.2 (by omega)
          have hw0 : ws = [] := List.eq_nil_of_length_eq_zero he
          have HE : Aside0 (lmid tc ws = lacc ws (lpre tc) ws.length ++ (⟨#[45]⟩ : ByteArray)) := ⟨by rw [HM.out, if_pos hw0, hw0]; rfl⟩
          rw [hb]
          clear hw0 he hb HM hsz
          generalize lacc ws (lpre tc) ws.length = acc at HE hz ⊢
          have c7 : acc.size + (⟨#[45]⟩ : ByteArray).size ≤ 9223372036854775807 := by omega
          have c8 : acc.size + 1 ≤ 9223372036854775807 := by omega
          go_wp2_with (fail)
          go_meet
          exact ⟨by rw [HE.out], HQr⟩
        · have hb : (((ws.length : Nat) : Int) == 0) = false := beq_eq_false_iff_ne.2 (by omega)
          have HE : Aside0 (lmid tc ws = lacc ws (lpre tc) ws.length) := ⟨by rw [HM.out, if_neg (by intro h; rw [h] at he; exact he rfl)]⟩
          rw [hb]
          go_wp2_with (fail)
          go_meet
          exact ⟨by rw [HE.out], HQr⟩
      case rest =>
        have hzm : (lmid tc ws).size ≤ 10000000 := by
          rw [HM.out]
          split
          · rw [ByteArray.size_append]; omega
          · omega
        clear HQr hsz k0 k1 k2 k3 k4 k5 k6 k7 k8 k9 k10 k11 k12 HM
        obtain ⟨rfl, HQc⟩ := hcut
        go_wp2_with (fail)
        go_loopw [3, 5] (fun v3 v5 wr => ∃ i : Nat, i ≤ 11 ∧ v3 = .string (nacc [n0, n1, n2, n3, n4, n5, n6, n7, n8, n9, n10] (lmid tc ws) i) ∧ v5 = .int .i64 i ∧ Aside0 (QL w A ws #[.string tc, .slice A ws.length n, .int .i64 n0, .int .i64 n1, .int .i64 n2, .int .i64 n3, .int .i64 n4, .int .i64 n5, .int .i64 n6, .int .i64 n7, .int .i64 n8, .int .i64 n9, .int .i64 n10] wr)) (fun _ v5 _ => 11 - (intOf v5).toNat)
        case atStart => exact ⟨0, by omega, rfl, rfl, HQc⟩
        case round =>
          clear HQc
          obtain ⟨i, hi, rfl, rfl, HQr⟩ := hrel
          have hsz := nacc_size [n0, n1, n2, n3, n4, n5, n6, n7, n8, n9, n10] (lmid tc ws) HI.out i
          by_cases hlt : i < 11
          · have hx := ten_cell HQr.out.h i hlt
            have hg : ([.int .i64 n0, .int .i64 n1, .int .i64 n2, .int .i64 n3, .int .i64 n4, .int .i64 n5, .int .i64 n6, .int .i64 n7, .int .i64 n8, .int .i64 n9, .int .i64 n10] : List Value).getD i undef = .int .i64 ([n0, n1, n2, n3, n4, n5, n6, n7, n8, n9, n10].getD i 0) := by
              rcases (show i = 0 ∨ i = 1 ∨ i = 2 ∨ i = 3 ∨ i = 4 ∨ i = 5 ∨ i = 6 ∨ i = 7 ∨ i = 8 ∨ i = 9 ∨ i = 10 by omega) with rfl | rfl | rfl | rfl | rfl | rfl | rfl | rfl | rfl | rfl | rfl <;> rfl
            rw [hg] at hx
            have hn0 : 0 ≤ [n0, n1, n2, n3, n4, n5, n6, n7, n8, n9, n10].getD i 0 ∧ [n0, n1, n2, n3, n4, n5, n6, n7, n8, n9, n10].getD i 0 ≤ 999 := by
              have := HI.out ([n0, n1, n2, n3, n4, n5, n6, n7, n8, n9, n10].getD i 0) (by
                rw [List.getD_eq_getElem?_getD, List.getElem?_eq_getElem (by simpa using hlt)]
                exact List.getElem_mem _)
              exact this
            have HL : Aside0 (nacc [n0, n1, n2, n3, n4, n5, n6, n7, n8, n9, n10] (lmid tc ws) (i + 1) = nacc [n0, n1, n2, n3, n4, n5, n6, n7, n8, n9, n10] (lmid tc ws) i ++ ((⟨#[32]⟩ : ByteArray) ++ itoaB ([n0, n1, n2, n3, n4, n5, n6, n7, n8, n9, n10].getD i 0))) := ⟨rfl⟩
            have hzn := Pure.num_size ([n0, n1, n2, n3, n4, n5, n6, n7, n8, n9, n10].getD i 0) (by omega) (by omega)
            clear hg
            generalize [n0, n1, n2, n3, n4, n5, n6, n7, n8, n9, n10].getD i 0 = x at hx hn0 HL hzn
            generalize nacc [n0, n1, n2, n3, n4, n5, n6, n7, n8, n9, n10] (lmid tc ws) i = acc at HL hsz ⊢
            have hzq : ((⟨#[32]⟩ : ByteArray) ++ itoaB x).size ≤ 100 := by rw [ByteArray.size_append]; omega
            have HNf := Aside0.mk (num_f x hn0)
            generalize (⟨#[32]⟩ : ByteArray) ++ itoaB x = y at HL hzq HNf
            have hb11 : ((i : Int) < 11) = True := eq_true (by omega)
            have hb0 : ((i : Int) < 0) = False := eq_false (by omega)
            go_wp2_with (fail)
            (with_reducible refine (squelchref30_num.calls 8 x y _ HNf.out).mono ?_)
            rintro r w5 ⟨rfl, hb5⟩
            have HQ5 := Aside0.mk (QL_call HQr.out hb5)
            have c9 : acc.size + y.size ≤ 9223372036854775807 := by omega
            go_wp2_with (fail)
            go_roundw
            case rel => exact ⟨i + 1, by omega, by rw [HL.out], rfl, HQ5⟩
            case measure => simp [intOf]; omega
          · obtain rfl : i = 11 := by omega
            go_wp2_with (fail)
            go_ret
            exact ⟨rfl, HQr.out.b⟩
end Go.Proofs.YtndgaeldndgioaaGreatDoor.QAll
end
