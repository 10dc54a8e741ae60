/- Words, walks and plain laws that the row of the law PathTexts rests on. -/
import Derived.Test.YtpmieapgbdbabaaDoorMPathTexts0
import Derived.Test.YtpmieapgbdbabaaDoorMPathTexts1
import Derived.Shelf.Strings.Builder1
import Derived.Shelf.Strings.OnBuilder
import Derived.Shelf.Strings.Builder2
import Derived.Shelf.Strings.Trim
import Derived.Shelf.Small.Utf8
import Derived.Shelf.Small.Strs
import Derived.Shelf.Small.Wraps
import Derived.Shelf.Strings.BuilderF
import Derived.Shelf.Utf8.RuneCount
import Derived.Shelf.Strconv.Atoi
import Derived.Shelf.Strconv.Itoa0
import Derived.Shelf.Strconv.Itoa1
import Derived.Shelf.LaysM
import Derived.Shelf.Strconv.Itoa2
import Derived.Shelf.Strconv.Itoa3
import Derived.Shelf.Strconv.AtoiErrFast
import Derived.Shelf.Strconv.ParseIntEmpty
import Derived.Shelf.Strconv.AtoiFail
import Derived.Shelf.Strconv.Clone
import Derived.Shelf.Strconv.SyntaxError
import Derived.Shelf.LaysC
import Derived.Shelf.Strconv.ToError
import Derived.Shelf.Strconv.AtoiErr
import Derived.Shelf.Strconv.ErrVar
import Derived.Shelf.Strconv.Lower
import Derived.Shelf.Strconv.ParseUint10
import Derived.Shelf.Strconv.ParseUint10Empty
import Derived.Shelf.Strconv.ParseUint10Any
import Derived.Shelf.Strconv.ParseInt10
import Derived.Shelf.Strconv.AtoiLong
import Derived.Shelf.Strconv.AtoiInnerAll
import Derived.Shelf.Strconv.RangeError
import Derived.Shelf.Strconv.ToErrorRange
import Derived.Shelf.Strconv.AtoiAll
import Derived.Shelf.Strconv.ErrVarAll
import Derived.Shelf.Strings.Search1
import Derived.Shelf.Strings.Search2
import Derived.Shelf.Strings.Search3
import Derived.Shelf.Strings.Cut
import Derived.Shelf.Strings.Count
import Derived.Shelf.Strings.Shaped
import Derived.Shelf.Strings.Prefix
import Derived.Shelf.Strings.Split
import Derived.Shelf.Strings.SplitShaped
import Derived.Shelf.Unicode.Decode
import Derived.Shelf.Strings.Runes
import Derived.Shelf.Strings.RuneCount
import Derived.Shelf.Strings.AsciiSet
import Derived.Shelf.Strings.Explode
import Derived.Shelf.Unicode.DecodeSlow
import Derived.Shelf.Unicode.DecodeAny
import Derived.Shelf.Unicode.DecodeLast
import Derived.Test.YtpmieapgbdbabaaDoorProg
import Derived.Deep.CutBlock
import Derived.Deep.RegionWith
import Derived.Lib.IndexLaws
import Derived.KernelRfl
import Derived.ScopeJumps
import Derived.Laws.DeepStrings4
import Derived.Test.YtpmieapgbdbabaaDoorRows
import Derived.Lib.LaidU8
import Derived.Lay
import Derived.Handed
import Derived.SizedLaws
import Derived.LaidLaws
import Derived.Shelf.Vars
import Derived.LaidHandle
import Derived.Stop.Joined
import Derived.Deep.Slices
import Derived.Deep.Fields
import Derived.ChangeSame
section
/- Walks, written by a program of this session (wip/pp): a Go function comes to what the Lean function beside it tells. -/
namespace Go.Proofs.YtpmieapgbdbabaaDoor.QAll
open Go.RowKit Go.Proofs.YtpmieapgbdbabaaDoorW.PrintWords Go.Proofs.YtpmieapgbdbabaaDoorW.PrintLast Go.Proofs.YtpmieapgbdbabaaDoorW.PrintMore
set_option linter.unusedVariables false
set_option linter.unusedSimpArgs false

def path_Via.l0 : Nat → List (S23) → Int → Int → ByteArray → Int → ByteArray → Int → Bool → Bool → List (S93) → Option (ByteArray × Int × ByteArray × Int × Bool × Bool × (List (S93)) × Int)
 | 0, _, _, _, _, _, _, _, _, _, _ => none
 | k + 1, x19, x20, x21, x120000, x120001, x120002, x120003, x120004, x120005, x120006 => if x21 < x20 then (if 0 ≤ x21 then (if x21 < (x19.length : Int) then (if x120006.length < 4398046511104 then (path_Via.l0 k x19 x20 (wrap64 (x21 + 1)) x120000 x120001 x120002 x120003 x120004 x120005 (x120006 ++ [(⟨(⟨(rd_T23 x19 x21).f0, (rd_T23 x19 x21).f1⟩ : S23), false⟩ : S93)])) else (none)) else (none)) else (none)) else ((path_Right.f x120000 x120001 x120002 x120003 x120004 x120005 x120006).bind fun t125 => (if t125 = true then (some (x120000, x120001, x120002, x120003, x120004, x120005, x120006, 0)) else (some ((⟨#[]⟩ : ByteArray), 0, (⟨#[]⟩ : ByteArray), 0, false, false, ([] : List (S93)), 11))))
def path_Via.f (k : Nat) (a0_0 : ByteArray) (a0_1 : Int) (a1_0 : ByteArray) (a1_1 : Int) (a2 : Bool) (l3 : List (S23)) : Option (ByteArray × Int × ByteArray × Int × Bool × Bool × (List (S93)) × Int) := path_Via.l0 k l3 (l3.length : Int) 0 a1_0 a1_1 a0_0 a0_1 a2 (!a2) ([] : List (S93))
set_option maxHeartbeats 8000000 in
set_option maxRecDepth 100000 in
theorem path_Via.calls (k : Nat) (a0_0 : ByteArray) (a0_1 : Int) (a1_0 : ByteArray) (a1_1 : Int) (a2 : Bool) (A3 : Option Addr) (c3 : Nat) (l3 : List (S23)) (r1 : ByteArray) (r2 : Int) (r3 : ByteArray) (r4 : Int) (r5 : Bool) (r6 : Bool) (r7 : List (S93)) (r8 : Int) (w : World) (hr3 : Kd.C k23 w A3 l3.length l3) (hc3 : l3.length ≤ c3) (h : path_Via.f k a0_0 a0_1 a1_0 a1_1 a2 l3 = some (r1, r2, r3, r4, r5, r6, r7, r8)) :
  Calls Tryd.prog 27 #[.agg #[.string a0_0, .int .i64 a0_1], .agg #[.string a1_0, .int .i64 a1_1], .bool a2, .slice A3 l3.length c3] w fun e w' => ∃ v6_ : Value, e = .returned (.tuple #[.agg #[.string r1, .int .i64 r2, .string r3, .int .i64 r4, .bool r5, .bool r6, v6_], .int .i64 r8]) ∧ Kd.R k93 93 w' w.heap.size (fun _ => True) v6_ r7 ∧ Below w.heap.size w w' := by
 have hu23 := Tryd.underlying23
 have hu26 := Tryd.underlying26
 have hu93 := Tryd.underlying93
 have HR3 := Aside0.mk hr3
 have HC3 := Aside0.mk hc3
 clear hr3 hc3
 have HB := Aside0.mk (Below.refl w.heap.size w)
 have H : (path_Via.l0 k l3 (l3.length : Int) 0 a1_0 a1_1 a0_0 a0_1 a2 (!a2) ([] : List (S93))) = some (r1, r2, r3, r4, r5, r6, r7, r8) := h
 clear h
 have H' := Aside0.mk H
 clear H
 go_enter Tryd.func27, Tryd.ntmps27
 go_wp2_with (first | ((with_reducible refine gate_dst (N := 4) rfl ?_); refine box_event ?hg (N := 4) ?hd (cs := #[.string a0_0, .int .i64 a0_1]) (t := 23) ?hr ?_; (case hd => rfl); (case hg => rfl); (case hr => first | (go_simp; done) | (go_simp; rfl)); intro gb116 hg w5 hbox hb; have n0_ := Aside0.mk (below_step (by repeat (first | (with_reducible first | exact HB.out | apply below_alloc | apply pw_below_drewN | apply below_drew1) | exact HB.out)) hb); have n1_ := Aside0.mk (hbox); have n2_ := Aside0.mk ((by rw [hg]; exact (below_size (by repeat (first | (with_reducible first | exact HB.out | apply below_alloc | apply pw_below_drewN | apply below_drew1) | exact HB.out))) : w.heap.size ≤ gb116)); have n3_ := Aside0.mk ((by rw [hg]; exact (below_size (by repeat (first | (with_reducible first | exact HB.out | apply below_alloc | apply pw_below_drewN | apply below_drew1) | exact HB.out))) : w.heap.size ≤ gb116)); clear HB; have HB := n0_; have BK116 := n1_; have GW116 := n2_; have GE116 := n3_; clear n0_ n1_ n2_ n3_; clear hb hbox hg) | ((with_reducible refine gate_dst (N := 5) rfl ?_); refine box_event ?hg (N := 5) ?hd (cs := #[.string a1_0, .int .i64 a1_1]) (t := 23) ?hr ?_; (case hd => rfl); (case hg => rfl); (case hr => first | (go_simp; done) | (go_simp; rfl)); intro gb117 hg w6 hbox hb; have n0_ := Aside0.mk (blk_below (g := gb116) (o := .cells #[.string a0_0, .int .i64 a0_1] 23 (0, 0)) (by (with_reducible repeat (first | refine blk_drewN ?_ _ | refine blk_drew ?_ | refine blk_alloc ?_ _)); exact BK116.out) hb); have n1_ := Aside0.mk (below_step (by repeat (first | (with_reducible first | exact HB.out | apply below_alloc | apply pw_below_drewN | apply below_drew1 | refine below_set ?_ GE116.out) | exact HB.out)) hb); have n2_ := Aside0.mk (hbox); have n3_ := Aside0.mk ((by rw [hg]; exact (below_size (by repeat (first | (with_reducible first | exact HB.out | apply below_alloc | apply pw_below_drewN | apply below_drew1 | refine below_set ?_ GE116.out) | exact HB.out))) : w.heap.size ≤ gb117)); have n4_ := Aside0.mk ((by rw [hg]; exact (below_size (by repeat (first | (with_reducible first | exact HB.out | apply below_alloc | apply pw_below_drewN | apply below_drew1 | refine below_set ?_ GE116.out) | exact HB.out))) : w.heap.size ≤ gb117)); have n5_ := Aside0.mk ((by rw [hg]; exact Nat.ne_of_lt (blk_lt (g := gb116) (o := .cells #[.string a0_0, .int .i64 a0_1] 23 (0, 0)) (by (with_reducible repeat (first | refine blk_drewN ?_ _ | refine blk_drew ?_ | refine blk_alloc ?_ _)); exact BK116.out)) : gb116 ≠ gb117)); have n6_ := Aside0.mk ((by rw [hg]; exact Nat.ne_of_gt (blk_lt (g := gb116) (o := .cells #[.string a0_0, .int .i64 a0_1] 23 (0, 0)) (by (with_reducible repeat (first | refine blk_drewN ?_ _ | refine blk_drew ?_ | refine blk_alloc ?_ _)); exact BK116.out)) : gb117 ≠ gb116)); clear BK116; clear HB; have BK116 := n0_; have HB := n1_; have BK117 := n2_; have GW117 := n3_; have GE117 := n4_; have NB116_117 := n5_; have NB117_116 := n6_; clear n0_ n1_ n2_ n3_ n4_ n5_ n6_; clear hb hbox hg) | ((with_reducible refine gate_dst (N := 8) rfl ?_); refine box_event ?hg (N := 8) ?hd (cs := #[.string (⟨#[]⟩ : ByteArray), .int .i64 0, .string (⟨#[]⟩ : ByteArray), .int .i64 0, .bool false, .bool false, .slice none 0 0]) (t := 26) ?hr ?_; (case hd => rfl); (case hg => rfl); (case hr => first | (go_simp; done) | (go_simp; rfl)); intro gb118 hg w7 hbox hb; have n0_ := Aside0.mk (blk_below (g := gb116) (o := .cells #[.string a0_0, .int .i64 a0_1] 23 (0, 0)) (by (with_reducible repeat (first | refine blk_drewN ?_ _ | refine blk_drew ?_ | refine blk_alloc ?_ _)); exact BK116.out) hb); have n1_ := Aside0.mk (blk_below (g := gb117) (o := .cells #[.string a1_0, .int .i64 a1_1] 23 (0, 0)) (by (with_reducible repeat (first | refine blk_drewN ?_ _ | refine blk_drew ?_ | refine blk_alloc ?_ _)); exact BK117.out) hb); have n2_ := Aside0.mk (below_step (by repeat (first | (with_reducible first | exact HB.out | apply below_alloc | apply pw_below_drewN | apply below_drew1 | refine below_set ?_ GE116.out | refine below_set ?_ GE117.out) | exact HB.out)) hb); have n3_ := Aside0.mk (hbox); have n4_ := Aside0.mk ((by rw [hg]; exact (below_size (by repeat (first | (with_reducible first | exact HB.out | apply below_alloc | apply pw_below_drewN | apply below_drew1 | refine below_set ?_ GE116.out | refine below_set ?_ GE117.out) | exact HB.out))) : w.heap.size ≤ gb118)); have n5_ := Aside0.mk ((by rw [hg]; exact (below_size (by repeat (first | (with_reducible first | exact HB.out | apply below_alloc | apply pw_below_drewN | apply below_drew1 | refine below_set ?_ GE116.out | refine below_set ?_ GE117.out) | exact HB.out))) : w.heap.size ≤ gb118)); have n6_ := Aside0.mk ((by rw [hg]; exact Nat.ne_of_lt (blk_lt (g := gb116) (o := .cells #[.string a0_0, .int .i64 a0_1] 23 (0, 0)) (by (with_reducible repeat (first | refine blk_drewN ?_ _ | refine blk_drew ?_ | refine blk_alloc ?_ _)); exact BK116.out)) : gb116 ≠ gb118)); have n7_ := Aside0.mk ((by rw [hg]; exact Nat.ne_of_gt (blk_lt (g := gb116) (o := .cells #[.string a0_0, .int .i64 a0_1] 23 (0, 0)) (by (with_reducible repeat (first | refine blk_drewN ?_ _ | refine blk_drew ?_ | refine blk_alloc ?_ _)); exact BK116.out)) : gb118 ≠ gb116)); have n8_ := Aside0.mk ((by rw [hg]; exact Nat.ne_of_lt (blk_lt (g := gb117) (o := .cells #[.string a1_0, .int .i64 a1_1] 23 (0, 0)) (by (with_reducible repeat (first | refine blk_drewN ?_ _ | refine blk_drew ?_ | refine blk_alloc ?_ _)); exact BK117.out)) : gb117 ≠ gb118)); have n9_ := Aside0.mk ((by rw [hg]; exact Nat.ne_of_gt (blk_lt (g := gb117) (o := .cells #[.string a1_0, .int .i64 a1_1] 23 (0, 0)) (by (with_reducible repeat (first | refine blk_drewN ?_ _ | refine blk_drew ?_ | refine blk_alloc ?_ _)); exact BK117.out)) : gb118 ≠ gb117)); clear BK116; clear BK117; clear HB; have BK116 := n0_; have BK117 := n1_; have HB := n2_; have BK118 := n3_; have GW118 := n4_; have GE118 := n5_; have NB116_118 := n6_; have NB118_116 := n7_; have NB117_118 := n8_; have NB118_117 := n9_; clear n0_ n1_ n2_ n3_ n4_ n5_ n6_ n7_ n8_ n9_; clear hb hbox hg; have hnb8 := NB117_116.out; have hnc8 := NB116_117.out; have hnb9 := NB117_118.out; have hnc9 := NB118_117.out; have hcz10_0 : w7.cell? ⟨gb117, 0, none⟩ = some (.string a1_0) := (blk_cell BK117.out 0).trans rfl; have hcz10_1 : w7.cell? ⟨gb117, 1, none⟩ = some (.int .i64 a1_1) := (blk_cell BK117.out 1).trans rfl; have hfz10_0 := blk_frozen BK117.out 0; have hfz10_1 := blk_frozen BK117.out 1; have hnb11 := NB116_118.out; have hnc11 := NB118_116.out; have hcz12_0 : w7.cell? ⟨gb116, 0, none⟩ = some (.string a0_0) := (blk_cell BK116.out 0).trans rfl; have hcz12_1 : w7.cell? ⟨gb116, 1, none⟩ = some (.int .i64 a0_1) := (blk_cell BK116.out 1).trans rfl; have hfz12_0 := blk_frozen BK116.out 0; have hfz12_1 := blk_frozen BK116.out 1) | ((with_reducible refine gate_dst (N := 10) rfl ?_); refine box_event ?hg (N := 10) ?hd (cs := #[.string (⟨#[]⟩ : ByteArray), .int .i64 0, .string (⟨#[]⟩ : ByteArray), .int .i64 0, .bool false, .bool false, .slice none 0 0]) (t := 26) ?hr ?_; (case hd => rfl); (case hg => rfl); (case hr => first | (go_simp; done) | (go_simp; rfl)); intro gb119 hg w13 hbox hb; have n0_ := Aside0.mk (blk_below (g := gb116) (o := .cells #[.string a0_0, .int .i64 a0_1] 23 (0, 0)) (by (with_reducible repeat (first | refine blk_drewN ?_ _ | refine blk_drew ?_ | refine blk_alloc ?_ _)); exact BK116.out) hb); have n1_ := Aside0.mk (blk_below (g := gb117) (o := .cells #[.string a1_0, .int .i64 a1_1] 23 (0, 0)) (by (with_reducible repeat (first | refine blk_drewN ?_ _ | refine blk_drew ?_ | refine blk_alloc ?_ _)); exact BK117.out) hb); have n2_ := Aside0.mk (blk_below (g := gb118) (o := .cells #[.string (⟨#[]⟩ : ByteArray), .int .i64 0, .string (⟨#[]⟩ : ByteArray), .int .i64 0, .bool false, .bool false, .slice none 0 0] 26 (0, 0)) (by (with_reducible repeat (first | refine blk_drewN ?_ _ | refine blk_drew ?_ | refine blk_alloc ?_ _)); exact BK118.out) hb); have n3_ := Aside0.mk (below_step (by repeat (first | (with_reducible first | exact HB.out | apply below_alloc | apply pw_below_drewN | apply below_drew1 | refine below_set ?_ GE116.out | refine below_set ?_ GE117.out | refine below_set ?_ GE118.out) | exact HB.out)) hb); have n4_ := Aside0.mk (hbox); have n5_ := Aside0.mk ((by rw [hg]; exact (below_size (by repeat (first | (with_reducible first | exact HB.out | apply below_alloc | apply pw_below_drewN | apply below_drew1 | refine below_set ?_ GE116.out | refine below_set ?_ GE117.out | refine below_set ?_ GE118.out) | exact HB.out))) : w.heap.size ≤ gb119)); have n6_ := Aside0.mk ((by rw [hg]; exact (below_size (by repeat (first | (with_reducible first | exact HB.out | apply below_alloc | apply pw_below_drewN | apply below_drew1 | refine below_set ?_ GE116.out | refine below_set ?_ GE117.out | refine below_set ?_ GE118.out) | exact HB.out))) : w.heap.size ≤ gb119)); have n7_ := Aside0.mk ((by rw [hg]; exact Nat.ne_of_lt (blk_lt (g := gb116) (o := .cells #[.string a0_0, .int .i64 a0_1] 23 (0, 0)) (by (with_reducible repeat (first | refine blk_drewN ?_ _ | refine blk_drew ?_ | refine blk_alloc ?_ _)); exact BK116.out)) : gb116 ≠ gb119)); have n8_ := Aside0.mk ((by rw [hg]; exact Nat.ne_of_gt (blk_lt (g := gb116) (o := .cells #[.string a0_0, .int .i64 a0_1] 23 (0, 0)) (by (with_reducible repeat (first | refine blk_drewN ?_ _ | refine blk_drew ?_ | refine blk_alloc ?_ _)); exact BK116.out)) : gb119 ≠ gb116)); have n9_ := Aside0.mk ((by rw [hg]; exact Nat.ne_of_lt (blk_lt (g := gb117) (o := .cells #[.string a1_0, .int .i64 a1_1] 23 (0, 0)) (by (with_reducible repeat (first | refine blk_drewN ?_ _ | refine blk_drew ?_ | refine blk_alloc ?_ _)); exact BK117.out)) : gb117 ≠ gb119)); have n10_ := Aside0.mk ((by rw [hg]; exact Nat.ne_of_gt (blk_lt (g := gb117) (o := .cells #[.string a1_0, .int .i64 a1_1] 23 (0, 0)) (by (with_reducible repeat (first | refine blk_drewN ?_ _ | refine blk_drew ?_ | refine blk_alloc ?_ _)); exact BK117.out)) : gb119 ≠ gb117)); have n11_ := Aside0.mk ((by rw [hg]; exact Nat.ne_of_lt (blk_lt (g := gb118) (o := .cells #[.string (⟨#[]⟩ : ByteArray), .int .i64 0, .string (⟨#[]⟩ : ByteArray), .int .i64 0, .bool false, .bool false, .slice none 0 0] 26 (0, 0)) (by (with_reducible repeat (first | refine blk_drewN ?_ _ | refine blk_drew ?_ | refine blk_alloc ?_ _)); exact BK118.out)) : gb118 ≠ gb119)); have n12_ := Aside0.mk ((by rw [hg]; exact Nat.ne_of_gt (blk_lt (g := gb118) (o := .cells #[.string (⟨#[]⟩ : ByteArray), .int .i64 0, .string (⟨#[]⟩ : ByteArray), .int .i64 0, .bool false, .bool false, .slice none 0 0] 26 (0, 0)) (by (with_reducible repeat (first | refine blk_drewN ?_ _ | refine blk_drew ?_ | refine blk_alloc ?_ _)); exact BK118.out)) : gb119 ≠ gb118)); clear BK116; clear BK117; clear BK118; clear HB; have BK116 := n0_; have BK117 := n1_; have BK118 := n2_; have HB := n3_; have BK119 := n4_; have GW119 := n5_; have GE119 := n6_; have NB116_119 := n7_; have NB119_116 := n8_; have NB117_119 := n9_; have NB119_117 := n10_; have NB118_119 := n11_; have NB119_118 := n12_; clear n0_ n1_ n2_ n3_ n4_ n5_ n6_ n7_ n8_ n9_ n10_ n11_ n12_; clear hb hbox hg; have hnb14 := NB119_116.out; have hnc14 := NB116_119.out; have hnb15 := NB119_117.out; have hnc15 := NB117_119.out; have hnb16 := NB119_118.out; have hnc16 := NB118_119.out; have hcz17_0 : w13.cell? ⟨gb119, 0, none⟩ = some (.string (⟨#[]⟩ : ByteArray)) := (blk_cell BK119.out 0).trans rfl; have hcz17_1 : w13.cell? ⟨gb119, 1, none⟩ = some (.int .i64 0) := (blk_cell BK119.out 1).trans rfl; have hcz17_2 : w13.cell? ⟨gb119, 2, none⟩ = some (.string (⟨#[]⟩ : ByteArray)) := (blk_cell BK119.out 2).trans rfl; have hcz17_3 : w13.cell? ⟨gb119, 3, none⟩ = some (.int .i64 0) := (blk_cell BK119.out 3).trans rfl; have hcz17_4 : w13.cell? ⟨gb119, 4, none⟩ = some (.bool false) := (blk_cell BK119.out 4).trans rfl; have hcz17_5 : w13.cell? ⟨gb119, 5, none⟩ = some (.bool false) := (blk_cell BK119.out 5).trans rfl; have hcz17_6 : w13.cell? ⟨gb119, 6, none⟩ = some (.slice none 0 0) := (blk_cell BK119.out 6).trans rfl; have hfz17_0 := blk_frozen BK119.out 0; have hfz17_1 := blk_frozen BK119.out 1; have hfz17_2 := blk_frozen BK119.out 2; have hfz17_3 := blk_frozen BK119.out 3; have hfz17_4 := blk_frozen BK119.out 4; have hfz17_5 := blk_frozen BK119.out 5; have hfz17_6 := blk_frozen BK119.out 6))
 go_loopg [21] k (fun kq v21 w' => ∃ (x21_1 : Int) (x120006_1 : List (S93)) (u120006 : Value), v21 = .int .i64 x21_1 ∧ Aside0 (path_Via.l0 kq l3 (l3.length : Int) x21_1 a1_0 a1_1 a0_0 a0_1 a2 (!a2) x120006_1 = some (r1, r2, r3, r4, r5, r6, r7, r8)) ∧ Aside0 (kq ≤ k) ∧ Aside0 (Kd.R k93 93 w' w.heap.size (fun _ => True) u120006 x120006_1) ∧ Aside0 (w'.heap[gb116]? = some (.cells #[.string a0_0, .int .i64 a0_1] 23 (0, 0))) ∧ Aside0 (w'.heap[gb117]? = some (.cells #[.string a1_0, .int .i64 a1_1] 23 (0, 0))) ∧ Aside0 (w'.heap[gb118]? = some (.cells #[.string (⟨#[]⟩ : ByteArray), .int .i64 0, .string (⟨#[]⟩ : ByteArray), .int .i64 0, .bool false, .bool false, (.slice none 0 0)] 26 (0, 0))) ∧ Aside0 (w'.heap[gb119]? = some (.cells #[.string a1_0, .int .i64 a1_1, .string a0_0, .int .i64 a0_1, .bool a2, .bool (!a2), u120006] 26 (0, 0))) ∧ Aside0 (Below w.heap.size w w'))
 case atStart => exact ⟨(0), (([] : List (S93))), (.slice none 0 0), (by first | rfl | (simp; done) | (simp [*]; done) | (simp; exact (fun l : List UInt8 => (by cases l <;> rfl : l.isEmpty = !(l != []))) _)), H', ⟨Nat.le_refl _⟩, ⟨by first | exact Kd.R_nil _ _ _ _ _ | exact Kd.N_nil _ _ _ _ _ | exact Kd.V_nil _ _ _ _ _ | exact Kd.Q_nil _ _ _ _ _ | exact Kd.S_nil _ _ _ _ _⟩, ⟨by (with_reducible repeat (first | refine blk_drewN ?_ _ | refine blk_drew ?_ | refine blk_alloc ?_ _)); refine blk_far ?_ NB116_119.out _; (with_reducible repeat (first | refine blk_drewN ?_ _ | refine blk_drew ?_ | refine blk_alloc ?_ _)); refine blk_far ?_ NB116_119.out _; (with_reducible repeat (first | refine blk_drewN ?_ _ | refine blk_drew ?_ | refine blk_alloc ?_ _)); refine blk_far ?_ NB116_119.out _; (with_reducible repeat (first | refine blk_drewN ?_ _ | refine blk_drew ?_ | refine blk_alloc ?_ _)); refine blk_far ?_ NB116_119.out _; (with_reducible repeat (first | refine blk_drewN ?_ _ | refine blk_drew ?_ | refine blk_alloc ?_ _)); refine blk_far ?_ NB116_119.out _; (with_reducible repeat (first | refine blk_drewN ?_ _ | refine blk_drew ?_ | refine blk_alloc ?_ _)); refine blk_far ?_ NB116_119.out _; (with_reducible repeat (first | refine blk_drewN ?_ _ | refine blk_drew ?_ | refine blk_alloc ?_ _)); refine blk_far ?_ NB116_119.out _; (with_reducible repeat (first | refine blk_drewN ?_ _ | refine blk_drew ?_ | refine blk_alloc ?_ _)); exact BK116.out⟩, ⟨by (with_reducible repeat (first | refine blk_drewN ?_ _ | refine blk_drew ?_ | refine blk_alloc ?_ _)); refine blk_far ?_ NB117_119.out _; (with_reducible repeat (first | refine blk_drewN ?_ _ | refine blk_drew ?_ | refine blk_alloc ?_ _)); refine blk_far ?_ NB117_119.out _; (with_reducible repeat (first | refine blk_drewN ?_ _ | refine blk_drew ?_ | refine blk_alloc ?_ _)); refine blk_far ?_ NB117_119.out _; (with_reducible repeat (first | refine blk_drewN ?_ _ | refine blk_drew ?_ | refine blk_alloc ?_ _)); refine blk_far ?_ NB117_119.out _; (with_reducible repeat (first | refine blk_drewN ?_ _ | refine blk_drew ?_ | refine blk_alloc ?_ _)); refine blk_far ?_ NB117_119.out _; (with_reducible repeat (first | refine blk_drewN ?_ _ | refine blk_drew ?_ | refine blk_alloc ?_ _)); refine blk_far ?_ NB117_119.out _; (with_reducible repeat (first | refine blk_drewN ?_ _ | refine blk_drew ?_ | refine blk_alloc ?_ _)); refine blk_far ?_ NB117_119.out _; (with_reducible repeat (first | refine blk_drewN ?_ _ | refine blk_drew ?_ | refine blk_alloc ?_ _)); exact BK117.out⟩, ⟨by (with_reducible repeat (first | refine blk_drewN ?_ _ | refine blk_drew ?_ | refine blk_alloc ?_ _)); refine blk_far ?_ NB118_119.out _; (with_reducible repeat (first | refine blk_drewN ?_ _ | refine blk_drew ?_ | refine blk_alloc ?_ _)); refine blk_far ?_ NB118_119.out _; (with_reducible repeat (first | refine blk_drewN ?_ _ | refine blk_drew ?_ | refine blk_alloc ?_ _)); refine blk_far ?_ NB118_119.out _; (with_reducible repeat (first | refine blk_drewN ?_ _ | refine blk_drew ?_ | refine blk_alloc ?_ _)); refine blk_far ?_ NB118_119.out _; (with_reducible repeat (first | refine blk_drewN ?_ _ | refine blk_drew ?_ | refine blk_alloc ?_ _)); refine blk_far ?_ NB118_119.out _; (with_reducible repeat (first | refine blk_drewN ?_ _ | refine blk_drew ?_ | refine blk_alloc ?_ _)); refine blk_far ?_ NB118_119.out _; (with_reducible repeat (first | refine blk_drewN ?_ _ | refine blk_drew ?_ | refine blk_alloc ?_ _)); refine blk_far ?_ NB118_119.out _; (with_reducible repeat (first | refine blk_drewN ?_ _ | refine blk_drew ?_ | refine blk_alloc ?_ _)); exact BK118.out⟩, ⟨by (with_reducible repeat (first | refine blk_drewN ?_ _ | refine blk_drew ?_ | refine blk_alloc ?_ _)); refine blk_put (cs := #[.string a1_0, .int .i64 a1_1, .string a0_0, .int .i64 a0_1, .bool a2, .bool (!a2), .slice none 0 0]) ?_ 6 _ rfl; (with_reducible repeat (first | refine blk_drewN ?_ _ | refine blk_drew ?_ | refine blk_alloc ?_ _)); refine blk_put (cs := #[.string a1_0, .int .i64 a1_1, .string a0_0, .int .i64 a0_1, .bool a2, .bool false, .slice none 0 0]) ?_ 5 _ rfl; (with_reducible repeat (first | refine blk_drewN ?_ _ | refine blk_drew ?_ | refine blk_alloc ?_ _)); refine blk_put (cs := #[.string a1_0, .int .i64 a1_1, .string a0_0, .int .i64 a0_1, .bool false, .bool false, .slice none 0 0]) ?_ 4 _ rfl; (with_reducible repeat (first | refine blk_drewN ?_ _ | refine blk_drew ?_ | refine blk_alloc ?_ _)); refine blk_put (cs := #[.string a1_0, .int .i64 a1_1, .string a0_0, .int .i64 0, .bool false, .bool false, .slice none 0 0]) ?_ 3 _ rfl; (with_reducible repeat (first | refine blk_drewN ?_ _ | refine blk_drew ?_ | refine blk_alloc ?_ _)); refine blk_put (cs := #[.string a1_0, .int .i64 a1_1, .string (⟨#[]⟩ : ByteArray), .int .i64 0, .bool false, .bool false, .slice none 0 0]) ?_ 2 _ rfl; (with_reducible repeat (first | refine blk_drewN ?_ _ | refine blk_drew ?_ | refine blk_alloc ?_ _)); refine blk_put (cs := #[.string a1_0, .int .i64 0, .string (⟨#[]⟩ : ByteArray), .int .i64 0, .bool false, .bool false, .slice none 0 0]) ?_ 1 _ rfl; (with_reducible repeat (first | refine blk_drewN ?_ _ | refine blk_drew ?_ | refine blk_alloc ?_ _)); refine blk_put (cs := #[.string (⟨#[]⟩ : ByteArray), .int .i64 0, .string (⟨#[]⟩ : ByteArray), .int .i64 0, .bool false, .bool false, .slice none 0 0]) ?_ 0 _ rfl; (with_reducible repeat (first | refine blk_drewN ?_ _ | refine blk_drew ?_ | refine blk_alloc ?_ _)); exact BK119.out⟩, ⟨by repeat (first | (with_reducible first | exact HB.out | apply below_alloc | apply pw_below_drewN | apply below_drew1 | refine below_set ?_ GE116.out | refine below_set ?_ GE117.out | refine below_set ?_ GE118.out | refine below_set ?_ GE119.out) | exact HB.out)⟩⟩
 case round =>
  clear H'
  try clear c1
  try clear c2
  try clear p2
  try clear c3
  try clear c8
  try clear c9
  try clear c11
  try clear c14
  try clear c15
  try clear c16
  try clear hcz10_0
  try clear hcz10_1
  try clear hcz12_0
  try clear hcz12_1
  try clear hcz17_0
  try clear hcz17_1
  try clear hcz17_2
  try clear hcz17_3
  try clear hcz17_4
  try clear hcz17_5
  try clear hcz17_6
  try clear hfz10_0
  try clear hfz10_1
  try clear hfz12_0
  try clear hfz12_1
  try clear hfz17_0
  try clear hfz17_1
  try clear hfz17_2
  try clear hfz17_3
  try clear hfz17_4
  try clear hfz17_5
  try clear hfz17_6
  obtain ⟨x21_1, x120006_1, u120006, rfl, HA, HK1, HO_120006, BK116, BK117, BK118, BK119, HB⟩ := hrel
  cases gk with
  | zero => exact absurd HA.out (by simp [path_Via.l0])
  | succ k1 =>
   have H := HA.out
   clear HA
   simp only [path_Via.l0] at H
   by_cases c18 : x21_1 < (l3.length : Int)
   ·rw [if_pos c18] at H
    have c18b0 : decide (x21_1 < (l3.length : Int)) = true := decide_eq_true c18
    clear c18
    by_cases c19 : 0 ≤ x21_1
    ·rw [if_pos c19] at H
     have c19b0 : decide (0 ≤ x21_1) = true := decide_eq_true c19
     clear c19
     by_cases c20 : x21_1 < (l3.length : Int)
     ·rw [if_pos c20] at H
      have c20b0 : decide (x21_1 < (l3.length : Int)) = true := decide_eq_true c20
      clear c20
      by_cases c21 : x120006_1.length < 4398046511104
      ·rw [if_pos c21] at H
       have LMc21 := Aside0.mk c21
       clear c21
       obtain ⟨y122, hy122⟩ : ∃ y_ : List (S93), y_ = (x120006_1 ++ [(⟨(⟨(rd_T23 l3 x21_1).f0, (rd_T23 l3 x21_1).f1⟩ : S23), false⟩ : S93)]) := ⟨_, rfl⟩
       replace H : (path_Via.l0 k1 l3 (l3.length : Int) (wrap64 (x21_1 + 1)) a1_0 a1_1 a0_0 a0_1 a2 (!a2) y122) = some (r1, r2, r3, r4, r5, r6, r7, r8) := by first | (rw [hy122]; with_reducible exact H) | (have H2_ := (Option.bind_some _ _).symm.trans H; rw [hy122]; with_reducible exact H2_) | (have H2_ := (Option.bind_some _ _).symm.trans H; with_reducible exact H2_) | with_reducible exact H | (rw [hy122]; exact H) | exact H
       have Ny122 := Aside0.mk hy122
       clear hy122
       have H' := Aside0.mk H
       clear H
       have p120 : 0 ≤ (x21_1 : Int) := of_decide_eq_true (by first | (with_reducible assumption) | assumption)
       have q120 : x21_1 < (l3.length : Int) := of_decide_eq_true (by first | (with_reducible assumption) | assumption)
       obtain ⟨ad120, e120, hx120_0, hx120_1⟩ := at_T23 HR3.out x21_1 p120 q120
       cases e120
       replace hx120_0 := (HB.out.cell (World.block_lt_of_cell? w _ hx120_0)).trans hx120_0
       replace hx120_1 := (HB.out.cell (World.block_lt_of_cell? w _ hx120_1)).trans hx120_1
       replace p120 := eq_true p120
       replace q120 := eq_true q120
       go_wp2_with (first | ((with_reducible refine gate_dst (N := 12) rfl ?_); refine box_event ?hg (N := 12) ?hd (cs := #[.string (⟨#[]⟩ : ByteArray), .int .i64 0]) (t := 23) ?hr ?_; (case hd => rfl); (case hg => rfl); (case hr => first | (go_simp; done) | (go_simp; rfl)); intro gb121 hg w22 hbox hb; have n0_ := Aside0.mk (Kd.R_below (by (with_reducible repeat (first | apply Kd.R_alloc | apply Kd.R_drewN | apply Kd.R_drew)); exact HO_120006.out) hb); have n1_ := Aside0.mk (blk_below (g := gb116) (o := .cells #[.string a0_0, .int .i64 a0_1] 23 (0, 0)) (by (with_reducible repeat (first | refine blk_drewN ?_ _ | refine blk_drew ?_ | refine blk_alloc ?_ _)); exact BK116.out) hb); have n2_ := Aside0.mk (blk_below (g := gb117) (o := .cells #[.string a1_0, .int .i64 a1_1] 23 (0, 0)) (by (with_reducible repeat (first | refine blk_drewN ?_ _ | refine blk_drew ?_ | refine blk_alloc ?_ _)); exact BK117.out) hb); have n3_ := Aside0.mk (blk_below (g := gb118) (o := .cells #[.string (⟨#[]⟩ : ByteArray), .int .i64 0, .string (⟨#[]⟩ : ByteArray), .int .i64 0, .bool false, .bool false, .slice none 0 0] 26 (0, 0)) (by (with_reducible repeat (first | refine blk_drewN ?_ _ | refine blk_drew ?_ | refine blk_alloc ?_ _)); exact BK118.out) hb); have n4_ := Aside0.mk (blk_below (g := gb119) (o := .cells #[.string a1_0, .int .i64 a1_1, .string a0_0, .int .i64 a0_1, .bool a2, .bool (!a2), u120006] 26 (0, 0)) (by (with_reducible repeat (first | refine blk_drewN ?_ _ | refine blk_drew ?_ | refine blk_alloc ?_ _)); exact BK119.out) hb); have n5_ := Aside0.mk (below_step (by repeat (first | (with_reducible first | exact HB.out | apply below_alloc | apply pw_below_drewN | apply below_drew1 | refine below_set ?_ GE116.out | refine below_set ?_ GE117.out | refine below_set ?_ GE118.out | refine below_set ?_ GE119.out) | exact HB.out)) hb); have n6_ := Aside0.mk (hbox); have n7_ := Aside0.mk ((by rw [hg]; exact (below_size (by repeat (first | (with_reducible first | exact HB.out | apply below_alloc | apply pw_below_drewN | apply below_drew1 | refine below_set ?_ GE116.out | refine below_set ?_ GE117.out | refine below_set ?_ GE118.out | refine below_set ?_ GE119.out) | exact HB.out))) : w.heap.size ≤ gb121)); have n8_ := Aside0.mk ((by rw [hg]; exact (below_size (by repeat (first | (with_reducible first | exact HB.out | apply below_alloc | apply pw_below_drewN | apply below_drew1 | refine below_set ?_ GE116.out | refine below_set ?_ GE117.out | refine below_set ?_ GE118.out | refine below_set ?_ GE119.out) | exact HB.out))) : w.heap.size ≤ gb121)); have n9_ := Aside0.mk ((by rw [hg]; exact Nat.ne_of_lt (blk_lt (g := gb116) (o := .cells #[.string a0_0, .int .i64 a0_1] 23 (0, 0)) (by (with_reducible repeat (first | refine blk_drewN ?_ _ | refine blk_drew ?_ | refine blk_alloc ?_ _)); exact BK116.out)) : gb116 ≠ gb121)); have n10_ := Aside0.mk ((by rw [hg]; exact Nat.ne_of_gt (blk_lt (g := gb116) (o := .cells #[.string a0_0, .int .i64 a0_1] 23 (0, 0)) (by (with_reducible repeat (first | refine blk_drewN ?_ _ | refine blk_drew ?_ | refine blk_alloc ?_ _)); exact BK116.out)) : gb121 ≠ gb116)); have n11_ := Aside0.mk ((by rw [hg]; exact Nat.ne_of_lt (blk_lt (g := gb117) (o := .cells #[.string a1_0, .int .i64 a1_1] 23 (0, 0)) (by (with_reducible repeat (first | refine blk_drewN ?_ _ | refine blk_drew ?_ | refine blk_alloc ?_ _)); exact BK117.out)) : gb117 ≠ gb121)); have n12_ := Aside0.mk ((by rw [hg]; exact Nat.ne_of_gt (blk_lt (g := gb117) (o := .cells #[.string a1_0, .int .i64 a1_1] 23 (0, 0)) (by (with_reducible repeat (first | refine blk_drewN ?_ _ | refine blk_drew ?_ | refine blk_alloc ?_ _)); exact BK117.out)) : gb121 ≠ gb117)); have n13_ := Aside0.mk ((by rw [hg]; exact Nat.ne_of_lt (blk_lt (g := gb118) (o := .cells #[.string (⟨#[]⟩ : ByteArray), .int .i64 0, .string (⟨#[]⟩ : ByteArray), .int .i64 0, .bool false, .bool false, .slice none 0 0] 26 (0, 0)) (by (with_reducible repeat (first | refine blk_drewN ?_ _ | refine blk_drew ?_ | refine blk_alloc ?_ _)); exact BK118.out)) : gb118 ≠ gb121)); have n14_ := Aside0.mk ((by rw [hg]; exact Nat.ne_of_gt (blk_lt (g := gb118) (o := .cells #[.string (⟨#[]⟩ : ByteArray), .int .i64 0, .string (⟨#[]⟩ : ByteArray), .int .i64 0, .bool false, .bool false, .slice none 0 0] 26 (0, 0)) (by (with_reducible repeat (first | refine blk_drewN ?_ _ | refine blk_drew ?_ | refine blk_alloc ?_ _)); exact BK118.out)) : gb121 ≠ gb118)); have n15_ := Aside0.mk ((by rw [hg]; exact Nat.ne_of_lt (blk_lt (g := gb119) (o := .cells #[.string a1_0, .int .i64 a1_1, .string a0_0, .int .i64 a0_1, .bool a2, .bool (!a2), u120006] 26 (0, 0)) (by (with_reducible repeat (first | refine blk_drewN ?_ _ | refine blk_drew ?_ | refine blk_alloc ?_ _)); exact BK119.out)) : gb119 ≠ gb121)); have n16_ := Aside0.mk ((by rw [hg]; exact Nat.ne_of_gt (blk_lt (g := gb119) (o := .cells #[.string a1_0, .int .i64 a1_1, .string a0_0, .int .i64 a0_1, .bool a2, .bool (!a2), u120006] 26 (0, 0)) (by (with_reducible repeat (first | refine blk_drewN ?_ _ | refine blk_drew ?_ | refine blk_alloc ?_ _)); exact BK119.out)) : gb121 ≠ gb119)); clear HO_120006; clear BK116; clear BK117; clear BK118; clear BK119; clear HB; have HO_120006 := n0_; have BK116 := n1_; have BK117 := n2_; have BK118 := n3_; have BK119 := n4_; have HB := n5_; have BK121 := n6_; have GW121 := n7_; have GE121 := n8_; have NB116_121 := n9_; have NB121_116 := n10_; have NB117_121 := n11_; have NB121_117 := n12_; have NB118_121 := n13_; have NB121_118 := n14_; have NB119_121 := n15_; have NB121_119 := n16_; clear n0_ n1_ n2_ n3_ n4_ n5_ n6_ n7_ n8_ n9_ n10_ n11_ n12_ n13_ n14_ n15_ n16_; clear hb hbox hg; have hnb23 := NB121_116.out; have hnc23 := NB116_121.out; have hnb24 := NB121_117.out; have hnc24 := NB117_121.out; have hnb25 := NB121_118.out; have hnc25 := NB118_121.out; have hnb26 := NB121_119.out; have hnc26 := NB119_121.out; have hcz27_0 : w22.cell? ⟨gb121, 0, none⟩ = some (.string (⟨#[]⟩ : ByteArray)) := (blk_cell BK121.out 0).trans rfl; have hcz27_1 : w22.cell? ⟨gb121, 1, none⟩ = some (.int .i64 0) := (blk_cell BK121.out 1).trans rfl; have hfz27_0 := blk_frozen BK121.out 0; have hfz27_1 := blk_frozen BK121.out 1; have hnb28 := NB119_116.out; have hnc28 := NB116_119.out; have hnb29 := NB119_117.out; have hnc29 := NB117_119.out; have hnb30 := NB119_118.out; have hnc30 := NB118_119.out; have hcz31_0 : w22.cell? ⟨gb119, 0, none⟩ = some (.string a1_0) := (blk_cell BK119.out 0).trans rfl; have hcz31_1 : w22.cell? ⟨gb119, 1, none⟩ = some (.int .i64 a1_1) := (blk_cell BK119.out 1).trans rfl; have hcz31_2 : w22.cell? ⟨gb119, 2, none⟩ = some (.string a0_0) := (blk_cell BK119.out 2).trans rfl; have hcz31_3 : w22.cell? ⟨gb119, 3, none⟩ = some (.int .i64 a0_1) := (blk_cell BK119.out 3).trans rfl; have hcz31_4 : w22.cell? ⟨gb119, 4, none⟩ = some (.bool a2) := (blk_cell BK119.out 4).trans rfl; have hcz31_5 : w22.cell? ⟨gb119, 5, none⟩ = some (.bool (!a2)) := (blk_cell BK119.out 5).trans rfl; have hcz31_6 : w22.cell? ⟨gb119, 6, none⟩ = some (u120006) := (blk_cell BK119.out 6).trans rfl; have hfz31_0 := blk_frozen BK119.out 0; have hfz31_1 := blk_frozen BK119.out 1; have hfz31_2 := blk_frozen BK119.out 2; have hfz31_3 := blk_frozen BK119.out 3; have hfz31_4 := blk_frozen BK119.out 4; have hfz31_5 := blk_frozen BK119.out 5; have hfz31_6 := blk_frozen BK119.out 6) | ((with_reducible refine gate_builtin (b := .append) (xs := #[.tmp 26, .tmp 29]) rfl ?_); at_builtin; refine Kd.R_append k93 (w0 := w) w.heap.size rfl (.tmp 26) (.tmp 29) 24 93 (.agg #[(.string ⟨#[]⟩), (.int .i64 0), (.bool false)]) 32 rfl Tryd.underlying24 info93 rfl (by decide) (by omega) u120006 x120006_1 (⟨(⟨(rd_T23 l3 x21_1).f0, (rd_T23 l3 x21_1).f1⟩ : S23), false⟩ : S93) [.string ((rd_T23 l3 x21_1).f0), .int .i64 ((rd_T23 l3 x21_1).f1), .bool false] (fun _ => True) (fun _ => False) rfl (by first | (go_simp; done) | (go_simp; rfl)) ?aP (fun _ hk => hk.elim) ?aF ?aO ?aB ?aS ?aL ?_; (case aP => exact k93_mkM _ _ _ (⟨(⟨(rd_T23 l3 x21_1).f0, (rd_T23 l3 x21_1).f1⟩ : S23), false⟩ : S93)); (case aB => exact (by repeat (first | (with_reducible first | exact HB.out | apply below_alloc | apply pw_below_drewN | apply below_drew1 | refine below_set ?_ GE116.out | refine below_set ?_ GE117.out | refine below_set ?_ GE118.out | refine below_set ?_ GE119.out | refine below_set ?_ GE121.out) | exact HB.out))); (case aF => exact (fun _ _ => trivial)); (case aO => exact (by (with_reducible repeat (first | apply Kd.R_alloc | apply Kd.R_drewN | apply Kd.R_drew)); exact Kd.R_mono (Kd.R_far (p := ⟨gb121, 1, none⟩) (Kd.R_far (p := ⟨gb121, 0, none⟩) (Kd.R_types HO_120006.out BK121.out (by decide)) (fun _ hk => hk.2) (.string ((rd_T23 l3 x21_1).f0))) (fun _ hk => hk.2) (.int .i64 ((rd_T23 l3 x21_1).f1))) (fun _ hk => trivial))); (case aS => exact (below_size (by repeat (first | (with_reducible first | exact HB.out | apply below_alloc | apply pw_below_drewN | apply below_drew1 | refine below_set ?_ GE116.out | refine below_set ?_ GE117.out | refine below_set ?_ GE118.out | refine below_set ?_ GE119.out | refine below_set ?_ GE121.out) | exact HB.out)))); (case aL => have := LMc21.out; omega); intro v123 w32 ho hb hg hat; rw [← Ny122.out] at ho; have n0_ := Aside0.mk (blk_grown (g := gb116) (o := .cells #[.string a0_0, .int .i64 a0_1] 23 (0, 0)) (by (with_reducible repeat (first | refine blk_drewN ?_ _ | refine blk_drew ?_ | refine blk_alloc ?_ _)); refine blk_far ?_ NB116_121.out _; (with_reducible repeat (first | refine blk_drewN ?_ _ | refine blk_drew ?_ | refine blk_alloc ?_ _)); refine blk_far ?_ NB116_121.out _; (with_reducible repeat (first | refine blk_drewN ?_ _ | refine blk_drew ?_ | refine blk_alloc ?_ _)); exact BK116.out) hg (Kd.R_ne HO_120006.out BK116.out (by decide))); have n1_ := Aside0.mk (blk_grown (g := gb117) (o := .cells #[.string a1_0, .int .i64 a1_1] 23 (0, 0)) (by (with_reducible repeat (first | refine blk_drewN ?_ _ | refine blk_drew ?_ | refine blk_alloc ?_ _)); refine blk_far ?_ NB117_121.out _; (with_reducible repeat (first | refine blk_drewN ?_ _ | refine blk_drew ?_ | refine blk_alloc ?_ _)); refine blk_far ?_ NB117_121.out _; (with_reducible repeat (first | refine blk_drewN ?_ _ | refine blk_drew ?_ | refine blk_alloc ?_ _)); exact BK117.out) hg (Kd.R_ne HO_120006.out BK117.out (by decide))); have n2_ := Aside0.mk (blk_grown (g := gb118) (o := .cells #[.string (⟨#[]⟩ : ByteArray), .int .i64 0, .string (⟨#[]⟩ : ByteArray), .int .i64 0, .bool false, .bool false, .slice none 0 0] 26 (0, 0)) (by (with_reducible repeat (first | refine blk_drewN ?_ _ | refine blk_drew ?_ | refine blk_alloc ?_ _)); refine blk_far ?_ NB118_121.out _; (with_reducible repeat (first | refine blk_drewN ?_ _ | refine blk_drew ?_ | refine blk_alloc ?_ _)); refine blk_far ?_ NB118_121.out _; (with_reducible repeat (first | refine blk_drewN ?_ _ | refine blk_drew ?_ | refine blk_alloc ?_ _)); exact BK118.out) hg (Kd.R_ne HO_120006.out BK118.out (by decide))); have n3_ := Aside0.mk (blk_grown (g := gb119) (o := .cells #[.string a1_0, .int .i64 a1_1, .string a0_0, .int .i64 a0_1, .bool a2, .bool (!a2), u120006] 26 (0, 0)) (by (with_reducible repeat (first | refine blk_drewN ?_ _ | refine blk_drew ?_ | refine blk_alloc ?_ _)); refine blk_far ?_ NB119_121.out _; (with_reducible repeat (first | refine blk_drewN ?_ _ | refine blk_drew ?_ | refine blk_alloc ?_ _)); refine blk_far ?_ NB119_121.out _; (with_reducible repeat (first | refine blk_drewN ?_ _ | refine blk_drew ?_ | refine blk_alloc ?_ _)); exact BK119.out) hg (Kd.R_ne HO_120006.out BK119.out (by decide))); have n4_ := Aside0.mk (blk_grown (g := gb121) (o := .cells #[.string ((rd_T23 l3 x21_1).f0), .int .i64 ((rd_T23 l3 x21_1).f1)] 23 (0, 0)) (by (with_reducible repeat (first | refine blk_drewN ?_ _ | refine blk_drew ?_ | refine blk_alloc ?_ _)); refine blk_put (cs := #[.string ((rd_T23 l3 x21_1).f0), .int .i64 0]) ?_ 1 _ rfl; (with_reducible repeat (first | refine blk_drewN ?_ _ | refine blk_drew ?_ | refine blk_alloc ?_ _)); refine blk_put (cs := #[.string (⟨#[]⟩ : ByteArray), .int .i64 0]) ?_ 0 _ rfl; (with_reducible repeat (first | refine blk_drewN ?_ _ | refine blk_drew ?_ | refine blk_alloc ?_ _)); exact BK121.out) hg (Kd.R_ne HO_120006.out BK121.out (by decide))); have n5_ := Aside0.mk (hb); have n6_ := Aside0.mk (ho); clear BK116; clear BK117; clear BK118; clear BK119; clear BK121; clear HB; clear HO_120006; have BK116 := n0_; have BK117 := n1_; have BK118 := n2_; have BK119 := n3_; have BK121 := n4_; have HB := n5_; have HO124 := n6_; clear n0_ n1_ n2_ n3_ n4_ n5_ n6_; clear ho hb hg hat; obtain ⟨Ao33, co33, eo33⟩ := Kd.R_slice HO124.out; subst eo33; have hcz34_0 : w32.cell? ⟨gb119, 0, none⟩ = some (.string a1_0) := (blk_cell BK119.out 0).trans rfl; have hcz34_1 : w32.cell? ⟨gb119, 1, none⟩ = some (.int .i64 a1_1) := (blk_cell BK119.out 1).trans rfl; have hcz34_2 : w32.cell? ⟨gb119, 2, none⟩ = some (.string a0_0) := (blk_cell BK119.out 2).trans rfl; have hcz34_3 : w32.cell? ⟨gb119, 3, none⟩ = some (.int .i64 a0_1) := (blk_cell BK119.out 3).trans rfl; have hcz34_4 : w32.cell? ⟨gb119, 4, none⟩ = some (.bool a2) := (blk_cell BK119.out 4).trans rfl; have hcz34_5 : w32.cell? ⟨gb119, 5, none⟩ = some (.bool (!a2)) := (blk_cell BK119.out 5).trans rfl; have hcz34_6 : w32.cell? ⟨gb119, 6, none⟩ = some (u120006) := (blk_cell BK119.out 6).trans rfl; have hfz34_0 := blk_frozen BK119.out 0; have hfz34_1 := blk_frozen BK119.out 1; have hfz34_2 := blk_frozen BK119.out 2; have hfz34_3 := blk_frozen BK119.out 3; have hfz34_4 := blk_frozen BK119.out 4; have hfz34_5 := blk_frozen BK119.out 5; have hfz34_6 := blk_frozen BK119.out 6))
       go_roundg k1
       case measure => have := HK1.out; omega
       case rel => exact ⟨(wrap64 (x21_1 + 1)), (y122), (.slice Ao33 y122.length co33), (by first | rfl | (simp; done) | (simp [*]; done) | (simp; exact (fun l : List UInt8 => (by cases l <;> rfl : l.isEmpty = !(l != []))) _)), H', ⟨by have := HK1.out; omega⟩, ⟨by (with_reducible repeat (first | apply Kd.R_alloc | apply Kd.R_drewN | apply Kd.R_drew)); exact Kd.R_mono (Kd.R_far (p := ⟨gb119, 6, none⟩) (Kd.R_types HO124.out BK119.out (by decide)) (fun _ hk => hk.2) (.slice Ao33 y122.length co33)) (fun _ hk => trivial)⟩, ⟨by (with_reducible repeat (first | refine blk_drewN ?_ _ | refine blk_drew ?_ | refine blk_alloc ?_ _)); refine blk_far ?_ NB116_119.out _; (with_reducible repeat (first | refine blk_drewN ?_ _ | refine blk_drew ?_ | refine blk_alloc ?_ _)); exact BK116.out⟩, ⟨by (with_reducible repeat (first | refine blk_drewN ?_ _ | refine blk_drew ?_ | refine blk_alloc ?_ _)); refine blk_far ?_ NB117_119.out _; (with_reducible repeat (first | refine blk_drewN ?_ _ | refine blk_drew ?_ | refine blk_alloc ?_ _)); exact BK117.out⟩, ⟨by (with_reducible repeat (first | refine blk_drewN ?_ _ | refine blk_drew ?_ | refine blk_alloc ?_ _)); refine blk_far ?_ NB118_119.out _; (with_reducible repeat (first | refine blk_drewN ?_ _ | refine blk_drew ?_ | refine blk_alloc ?_ _)); exact BK118.out⟩, ⟨by (with_reducible repeat (first | refine blk_drewN ?_ _ | refine blk_drew ?_ | refine blk_alloc ?_ _)); refine blk_put (cs := #[.string a1_0, .int .i64 a1_1, .string a0_0, .int .i64 a0_1, .bool a2, .bool (!a2), u120006]) ?_ 6 _ rfl; (with_reducible repeat (first | refine blk_drewN ?_ _ | refine blk_drew ?_ | refine blk_alloc ?_ _)); exact BK119.out⟩, ⟨by repeat (first | (with_reducible first | exact HB.out | apply below_alloc | apply pw_below_drewN | apply below_drew1 | refine below_set ?_ GE116.out | refine below_set ?_ GE117.out | refine below_set ?_ GE118.out | refine below_set ?_ GE119.out | refine below_set ?_ GE121.out) | exact HB.out)⟩⟩
      ·rw [if_neg c21] at H
       exact absurd H (by simp)
     ·rw [if_neg c20] at H
      exact absurd H (by simp)
    ·rw [if_neg c19] at H
     exact absurd H (by simp)
   ·rw [if_neg c18] at H
    have c18b0 : decide (x21_1 < (l3.length : Int)) = false := decide_eq_false c18
    clear c18
    replace H := Option.bind_eq_some_iff.mp H
    obtain ⟨t125, A350, H⟩ := H
    replace H : (if t125 = true then (some (a1_0, a1_1, a0_0, a0_1, a2, (!a2), x120006_1, 0)) else (some ((⟨#[]⟩ : ByteArray), 0, (⟨#[]⟩ : ByteArray), 0, false, false, ([] : List (S93)), 11))) = some (r1, r2, r3, r4, r5, r6, r7, r8) := H
    have A35 := Aside0.mk A350
    clear A350
    by_cases c36 : t125 = true
    ·subst c36
     have H1 : (some (a1_0, a1_1, a0_0, a0_1, a2, (!a2), x120006_1, 0)) = some (r1, r2, r3, r4, r5, r6, r7, r8) := by rw [if_pos rfl] at H; exact H
     clear H
     have H := H1
     clear H1
     simp only [Option.some.injEq, Prod.mk.injEq] at H
     obtain ⟨rfl, rfl, rfl, rfl, rfl, rfl, rfl, rfl⟩ := H
     have hnb37 := NB119_116.out
     have hnc37 := NB116_119.out
     have hnb38 := NB119_117.out
     have hnc38 := NB117_119.out
     have hnb39 := NB119_118.out
     have hnc39 := NB118_119.out
     have hcz40_0 : wr.cell? ⟨gb119, 0, none⟩ = some (.string a1_0) := (blk_cell BK119.out 0).trans rfl
     have hcz40_1 : wr.cell? ⟨gb119, 1, none⟩ = some (.int .i64 a1_1) := (blk_cell BK119.out 1).trans rfl
     have hcz40_2 : wr.cell? ⟨gb119, 2, none⟩ = some (.string a0_0) := (blk_cell BK119.out 2).trans rfl
     have hcz40_3 : wr.cell? ⟨gb119, 3, none⟩ = some (.int .i64 a0_1) := (blk_cell BK119.out 3).trans rfl
     have hcz40_4 : wr.cell? ⟨gb119, 4, none⟩ = some (.bool a2) := (blk_cell BK119.out 4).trans rfl
     have hcz40_5 : wr.cell? ⟨gb119, 5, none⟩ = some (.bool (!a2)) := (blk_cell BK119.out 5).trans rfl
     have hcz40_6 : wr.cell? ⟨gb119, 6, none⟩ = some (u120006) := (blk_cell BK119.out 6).trans rfl
     have hfz40_0 := blk_frozen BK119.out 0
     have hfz40_1 := blk_frozen BK119.out 1
     have hfz40_2 := blk_frozen BK119.out 2
     have hfz40_3 := blk_frozen BK119.out 3
     have hfz40_4 := blk_frozen BK119.out 4
     have hfz40_5 := blk_frozen BK119.out 5
     have hfz40_6 := blk_frozen BK119.out 6
     obtain ⟨Ao41, co41, eo41⟩ := Kd.R_slice HO_120006.out
     subst eo41
     go_wp2_with (first | ((with_reducible refine gate_callee (f := 28) rfl ?_); refine goesL_ (some 34) rfl rfl Tryd.func28 (by kernel_rfl) rfl #[.agg #[.string a1_0, .int .i64 a1_1, .string a0_0, .int .i64 a0_1, .bool a2, .bool (!a2), .slice Ao41 x120006_1.length co41]] rfl (by (try simp only [List.map_toArray, List.map_cons, List.map_nil]); first | done | rfl | (simp only [List.length_drop, List.length_take]; rfl)) ?_; (with_reducible refine (path_Right.calls a1_0 a1_1 a0_0 a0_1 a2 (!a2) _ _ x120006_1 true _ ?side1 ?side2 A35.out).mono ?_); (case side1 => repeat (first | exact (Kd.R_reads' HO_120006.out).2.2 | (with_reducible refine Kd.C_alloc ?_ _) | (with_reducible refine Kd.C_drewN ?_ _) | (with_reducible refine Kd.C_drew ?_))); (case side2 => exact (Kd.R_reads' HO_120006.out).2.1); rintro e w42 ⟨rfl, hb⟩; refine ⟨_, rfl, ?_⟩; have n0_ := Aside0.mk (Kd.R_below (by (with_reducible repeat (first | apply Kd.R_alloc | apply Kd.R_drewN | apply Kd.R_drew)); exact HO_120006.out) hb); have n1_ := Aside0.mk (blk_below (g := gb116) (o := .cells #[.string a0_0, .int .i64 a0_1] 23 (0, 0)) (by (with_reducible repeat (first | refine blk_drewN ?_ _ | refine blk_drew ?_ | refine blk_alloc ?_ _)); exact BK116.out) hb); have n2_ := Aside0.mk (blk_below (g := gb117) (o := .cells #[.string a1_0, .int .i64 a1_1] 23 (0, 0)) (by (with_reducible repeat (first | refine blk_drewN ?_ _ | refine blk_drew ?_ | refine blk_alloc ?_ _)); exact BK117.out) hb); have n3_ := Aside0.mk (blk_below (g := gb118) (o := .cells #[.string (⟨#[]⟩ : ByteArray), .int .i64 0, .string (⟨#[]⟩ : ByteArray), .int .i64 0, .bool false, .bool false, .slice none 0 0] 26 (0, 0)) (by (with_reducible repeat (first | refine blk_drewN ?_ _ | refine blk_drew ?_ | refine blk_alloc ?_ _)); exact BK118.out) hb); have n4_ := Aside0.mk (blk_below (g := gb119) (o := .cells #[.string a1_0, .int .i64 a1_1, .string a0_0, .int .i64 a0_1, .bool a2, .bool (!a2), .slice Ao41 x120006_1.length co41] 26 (0, 0)) (by (with_reducible repeat (first | refine blk_drewN ?_ _ | refine blk_drew ?_ | refine blk_alloc ?_ _)); exact BK119.out) hb); have n5_ := Aside0.mk (below_step (by repeat (first | (with_reducible first | exact HB.out | apply below_alloc | apply pw_below_drewN | apply below_drew1 | refine below_set ?_ GE116.out | refine below_set ?_ GE117.out | refine below_set ?_ GE118.out | refine below_set ?_ GE119.out) | exact HB.out)) hb); clear HO_120006; clear BK116; clear BK117; clear BK118; clear BK119; clear HB; have HO_120006 := n0_; have BK116 := n1_; have BK117 := n2_; have BK118 := n3_; have BK119 := n4_; have HB := n5_; clear n0_ n1_ n2_ n3_ n4_ n5_; (try clear hb); (try clear hb2); (try clear hk); (try clear hi); have hcz43_0 : w42.cell? ⟨gb119, 0, none⟩ = some (.string a1_0) := (blk_cell BK119.out 0).trans rfl; have hcz43_1 : w42.cell? ⟨gb119, 1, none⟩ = some (.int .i64 a1_1) := (blk_cell BK119.out 1).trans rfl; have hcz43_2 : w42.cell? ⟨gb119, 2, none⟩ = some (.string a0_0) := (blk_cell BK119.out 2).trans rfl; have hcz43_3 : w42.cell? ⟨gb119, 3, none⟩ = some (.int .i64 a0_1) := (blk_cell BK119.out 3).trans rfl; have hcz43_4 : w42.cell? ⟨gb119, 4, none⟩ = some (.bool a2) := (blk_cell BK119.out 4).trans rfl; have hcz43_5 : w42.cell? ⟨gb119, 5, none⟩ = some (.bool (!a2)) := (blk_cell BK119.out 5).trans rfl; have hcz43_6 : w42.cell? ⟨gb119, 6, none⟩ = some (.slice Ao41 x120006_1.length co41) := (blk_cell BK119.out 6).trans rfl; have hfz43_0 := blk_frozen BK119.out 0; have hfz43_1 := blk_frozen BK119.out 1; have hfz43_2 := blk_frozen BK119.out 2; have hfz43_3 := blk_frozen BK119.out 3; have hfz43_4 := blk_frozen BK119.out 4; have hfz43_5 := blk_frozen BK119.out 5; have hfz43_6 := blk_frozen BK119.out 6; have hnb44 := NB118_116.out; have hnc44 := NB116_118.out; have hnb45 := NB118_117.out; have hnc45 := NB117_118.out; have hcz46_0 : w42.cell? ⟨gb118, 0, none⟩ = some (.string (⟨#[]⟩ : ByteArray)) := (blk_cell BK118.out 0).trans rfl; have hcz46_1 : w42.cell? ⟨gb118, 1, none⟩ = some (.int .i64 0) := (blk_cell BK118.out 1).trans rfl; have hcz46_2 : w42.cell? ⟨gb118, 2, none⟩ = some (.string (⟨#[]⟩ : ByteArray)) := (blk_cell BK118.out 2).trans rfl; have hcz46_3 : w42.cell? ⟨gb118, 3, none⟩ = some (.int .i64 0) := (blk_cell BK118.out 3).trans rfl; have hcz46_4 : w42.cell? ⟨gb118, 4, none⟩ = some (.bool false) := (blk_cell BK118.out 4).trans rfl; have hcz46_5 : w42.cell? ⟨gb118, 5, none⟩ = some (.bool false) := (blk_cell BK118.out 5).trans rfl; have hcz46_6 : w42.cell? ⟨gb118, 6, none⟩ = some (.slice none 0 0) := (blk_cell BK118.out 6).trans rfl; have hfz46_0 := blk_frozen BK118.out 0; have hfz46_1 := blk_frozen BK118.out 1; have hfz46_2 := blk_frozen BK118.out 2; have hfz46_3 := blk_frozen BK118.out 3; have hfz46_4 := blk_frozen BK118.out 4; have hfz46_5 := blk_frozen BK118.out 5; have hfz46_6 := blk_frozen BK118.out 6))
     refine bodyPost_ret (results_ct rfl _ _ gb118 26 #[.string a1_0, .int .i64 a1_1, .string a0_0, .int .i64 a0_1, .bool a2, .bool (!a2), .slice Ao41 x120006_1.length co41] (0, 0) _ rfl (by (with_reducible repeat (first | refine blk_drewN ?_ _ | refine blk_drew ?_ | refine blk_alloc ?_ _)); refine blk_put (cs := #[.string a1_0, .int .i64 a1_1, .string a0_0, .int .i64 a0_1, .bool a2, .bool (!a2), .slice none 0 0]) ?_ 6 _ rfl; (with_reducible repeat (first | refine blk_drewN ?_ _ | refine blk_drew ?_ | refine blk_alloc ?_ _)); refine blk_put (cs := #[.string a1_0, .int .i64 a1_1, .string a0_0, .int .i64 a0_1, .bool a2, .bool false, .slice none 0 0]) ?_ 5 _ rfl; (with_reducible repeat (first | refine blk_drewN ?_ _ | refine blk_drew ?_ | refine blk_alloc ?_ _)); refine blk_put (cs := #[.string a1_0, .int .i64 a1_1, .string a0_0, .int .i64 a0_1, .bool false, .bool false, .slice none 0 0]) ?_ 4 _ rfl; (with_reducible repeat (first | refine blk_drewN ?_ _ | refine blk_drew ?_ | refine blk_alloc ?_ _)); refine blk_put (cs := #[.string a1_0, .int .i64 a1_1, .string a0_0, .int .i64 0, .bool false, .bool false, .slice none 0 0]) ?_ 3 _ rfl; (with_reducible repeat (first | refine blk_drewN ?_ _ | refine blk_drew ?_ | refine blk_alloc ?_ _)); refine blk_put (cs := #[.string a1_0, .int .i64 a1_1, .string (⟨#[]⟩ : ByteArray), .int .i64 0, .bool false, .bool false, .slice none 0 0]) ?_ 2 _ rfl; (with_reducible repeat (first | refine blk_drewN ?_ _ | refine blk_drew ?_ | refine blk_alloc ?_ _)); refine blk_put (cs := #[.string a1_0, .int .i64 0, .string (⟨#[]⟩ : ByteArray), .int .i64 0, .bool false, .bool false, .slice none 0 0]) ?_ 1 _ rfl; (with_reducible repeat (first | refine blk_drewN ?_ _ | refine blk_drew ?_ | refine blk_alloc ?_ _)); refine blk_put (cs := #[.string (⟨#[]⟩ : ByteArray), .int .i64 0, .string (⟨#[]⟩ : ByteArray), .int .i64 0, .bool false, .bool false, .slice none 0 0]) ?_ 0 _ rfl; (with_reducible repeat (first | refine blk_drewN ?_ _ | refine blk_drew ?_ | refine blk_alloc ?_ _)); exact BK118.out) Tryd.underlying26 rfl (by kernel_rfl)) rfl ?_
     exact ⟨_, by first | rfl | (simp [errW_none, errW_some] <;> rfl) | (simp [*, errW_none, errW_some] <;> rfl), by (with_reducible repeat (first | apply Kd.R_alloc | apply Kd.R_drewN | apply Kd.R_drew)); exact Kd.R_mono (Kd.R_far (p := ⟨gb118, 6, none⟩) (Kd.R_far (p := ⟨gb118, 5, none⟩) (Kd.R_far (p := ⟨gb118, 4, none⟩) (Kd.R_far (p := ⟨gb118, 3, none⟩) (Kd.R_far (p := ⟨gb118, 2, none⟩) (Kd.R_far (p := ⟨gb118, 1, none⟩) (Kd.R_far (p := ⟨gb118, 0, none⟩) (Kd.R_types HO_120006.out BK118.out (by decide)) (fun _ hk => hk.2) (.string a1_0)) (fun _ hk => hk.2) (.int .i64 a1_1)) (fun _ hk => hk.2) (.string a0_0)) (fun _ hk => hk.2) (.int .i64 a0_1)) (fun _ hk => hk.2) (.bool a2)) (fun _ hk => hk.2) (.bool (!a2))) (fun _ hk => hk.2) (.slice Ao41 x120006_1.length co41)) (fun _ hk => trivial), by repeat (first | (with_reducible first | exact HB.out | apply below_alloc | apply pw_below_drewN | apply below_drew1 | refine below_set ?_ GE116.out | refine below_set ?_ GE117.out | refine below_set ?_ GE118.out | refine below_set ?_ GE119.out) | exact HB.out)⟩
    ·replace c36 := Bool.eq_false_iff.mpr c36
     subst c36
     have H1 : (some ((⟨#[]⟩ : ByteArray), 0, (⟨#[]⟩ : ByteArray), 0, false, false, ([] : List (S93)), 11)) = some (r1, r2, r3, r4, r5, r6, r7, r8) := by rw [if_neg (show ¬ (false = true) by decide)] at H; exact H
     clear H
     have H := H1
     clear H1
     simp only [Option.some.injEq, Prod.mk.injEq] at H
     obtain ⟨rfl, rfl, rfl, rfl, rfl, rfl, rfl, rfl⟩ := H
     have hnb47 := NB119_116.out
     have hnc47 := NB116_119.out
     have hnb48 := NB119_117.out
     have hnc48 := NB117_119.out
     have hnb49 := NB119_118.out
     have hnc49 := NB118_119.out
     have hcz50_0 : wr.cell? ⟨gb119, 0, none⟩ = some (.string a1_0) := (blk_cell BK119.out 0).trans rfl
     have hcz50_1 : wr.cell? ⟨gb119, 1, none⟩ = some (.int .i64 a1_1) := (blk_cell BK119.out 1).trans rfl
     have hcz50_2 : wr.cell? ⟨gb119, 2, none⟩ = some (.string a0_0) := (blk_cell BK119.out 2).trans rfl
     have hcz50_3 : wr.cell? ⟨gb119, 3, none⟩ = some (.int .i64 a0_1) := (blk_cell BK119.out 3).trans rfl
     have hcz50_4 : wr.cell? ⟨gb119, 4, none⟩ = some (.bool a2) := (blk_cell BK119.out 4).trans rfl
     have hcz50_5 : wr.cell? ⟨gb119, 5, none⟩ = some (.bool (!a2)) := (blk_cell BK119.out 5).trans rfl
     have hcz50_6 : wr.cell? ⟨gb119, 6, none⟩ = some (u120006) := (blk_cell BK119.out 6).trans rfl
     have hfz50_0 := blk_frozen BK119.out 0
     have hfz50_1 := blk_frozen BK119.out 1
     have hfz50_2 := blk_frozen BK119.out 2
     have hfz50_3 := blk_frozen BK119.out 3
     have hfz50_4 := blk_frozen BK119.out 4
     have hfz50_5 := blk_frozen BK119.out 5
     have hfz50_6 := blk_frozen BK119.out 6
     obtain ⟨Ao51, co51, eo51⟩ := Kd.R_slice HO_120006.out
     subst eo51
     go_wp2_with (first | ((with_reducible refine gate_callee (f := 28) rfl ?_); refine goesL_ (some 34) rfl rfl Tryd.func28 (by kernel_rfl) rfl #[.agg #[.string a1_0, .int .i64 a1_1, .string a0_0, .int .i64 a0_1, .bool a2, .bool (!a2), .slice Ao51 x120006_1.length co51]] rfl (by (try simp only [List.map_toArray, List.map_cons, List.map_nil]); first | done | rfl | (simp only [List.length_drop, List.length_take]; rfl)) ?_; (with_reducible refine (path_Right.calls a1_0 a1_1 a0_0 a0_1 a2 (!a2) _ _ x120006_1 false _ ?side1 ?side2 A35.out).mono ?_); (case side1 => repeat (first | exact (Kd.R_reads' HO_120006.out).2.2 | (with_reducible refine Kd.C_alloc ?_ _) | (with_reducible refine Kd.C_drewN ?_ _) | (with_reducible refine Kd.C_drew ?_))); (case side2 => exact (Kd.R_reads' HO_120006.out).2.1); rintro e w52 ⟨rfl, hb⟩; refine ⟨_, rfl, ?_⟩; have n0_ := Aside0.mk (Kd.R_below (by (with_reducible repeat (first | apply Kd.R_alloc | apply Kd.R_drewN | apply Kd.R_drew)); exact HO_120006.out) hb); have n1_ := Aside0.mk (blk_below (g := gb116) (o := .cells #[.string a0_0, .int .i64 a0_1] 23 (0, 0)) (by (with_reducible repeat (first | refine blk_drewN ?_ _ | refine blk_drew ?_ | refine blk_alloc ?_ _)); exact BK116.out) hb); have n2_ := Aside0.mk (blk_below (g := gb117) (o := .cells #[.string a1_0, .int .i64 a1_1] 23 (0, 0)) (by (with_reducible repeat (first | refine blk_drewN ?_ _ | refine blk_drew ?_ | refine blk_alloc ?_ _)); exact BK117.out) hb); have n3_ := Aside0.mk (blk_below (g := gb118) (o := .cells #[.string (⟨#[]⟩ : ByteArray), .int .i64 0, .string (⟨#[]⟩ : ByteArray), .int .i64 0, .bool false, .bool false, .slice none 0 0] 26 (0, 0)) (by (with_reducible repeat (first | refine blk_drewN ?_ _ | refine blk_drew ?_ | refine blk_alloc ?_ _)); exact BK118.out) hb); have n4_ := Aside0.mk (blk_below (g := gb119) (o := .cells #[.string a1_0, .int .i64 a1_1, .string a0_0, .int .i64 a0_1, .bool a2, .bool (!a2), .slice Ao51 x120006_1.length co51] 26 (0, 0)) (by (with_reducible repeat (first | refine blk_drewN ?_ _ | refine blk_drew ?_ | refine blk_alloc ?_ _)); exact BK119.out) hb); have n5_ := Aside0.mk (below_step (by repeat (first | (with_reducible first | exact HB.out | apply below_alloc | apply pw_below_drewN | apply below_drew1 | refine below_set ?_ GE116.out | refine below_set ?_ GE117.out | refine below_set ?_ GE118.out | refine below_set ?_ GE119.out) | exact HB.out)) hb); clear HO_120006; clear BK116; clear BK117; clear BK118; clear BK119; clear HB; have HO_120006 := n0_; have BK116 := n1_; have BK117 := n2_; have BK118 := n3_; have BK119 := n4_; have HB := n5_; clear n0_ n1_ n2_ n3_ n4_ n5_; (try clear hb); (try clear hb2); (try clear hk); (try clear hi); have hnb53 := NB118_116.out; have hnc53 := NB116_118.out; have hnb54 := NB118_117.out; have hnc54 := NB117_118.out; have hcz55_0 : w52.cell? ⟨gb118, 0, none⟩ = some (.string (⟨#[]⟩ : ByteArray)) := (blk_cell BK118.out 0).trans rfl; have hcz55_1 : w52.cell? ⟨gb118, 1, none⟩ = some (.int .i64 0) := (blk_cell BK118.out 1).trans rfl; have hcz55_2 : w52.cell? ⟨gb118, 2, none⟩ = some (.string (⟨#[]⟩ : ByteArray)) := (blk_cell BK118.out 2).trans rfl; have hcz55_3 : w52.cell? ⟨gb118, 3, none⟩ = some (.int .i64 0) := (blk_cell BK118.out 3).trans rfl; have hcz55_4 : w52.cell? ⟨gb118, 4, none⟩ = some (.bool false) := (blk_cell BK118.out 4).trans rfl; have hcz55_5 : w52.cell? ⟨gb118, 5, none⟩ = some (.bool false) := (blk_cell BK118.out 5).trans rfl; have hcz55_6 : w52.cell? ⟨gb118, 6, none⟩ = some (.slice none 0 0) := (blk_cell BK118.out 6).trans rfl; have hfz55_0 := blk_frozen BK118.out 0; have hfz55_1 := blk_frozen BK118.out 1; have hfz55_2 := blk_frozen BK118.out 2; have hfz55_3 := blk_frozen BK118.out 3; have hfz55_4 := blk_frozen BK118.out 4; have hfz55_5 := blk_frozen BK118.out 5; have hfz55_6 := blk_frozen BK118.out 6))
     refine bodyPost_ret (results_ct rfl _ _ gb118 26 #[.string (⟨#[]⟩ : ByteArray), .int .i64 0, .string (⟨#[]⟩ : ByteArray), .int .i64 0, .bool false, .bool false, .slice none 0 0] (0, 0) _ rfl (by (with_reducible repeat (first | refine blk_drewN ?_ _ | refine blk_drew ?_ | refine blk_alloc ?_ _)); refine blk_put (cs := #[.string (⟨#[]⟩ : ByteArray), .int .i64 0, .string (⟨#[]⟩ : ByteArray), .int .i64 0, .bool false, .bool false, .slice none 0 0]) ?_ 6 _ rfl; (with_reducible repeat (first | refine blk_drewN ?_ _ | refine blk_drew ?_ | refine blk_alloc ?_ _)); refine blk_put (cs := #[.string (⟨#[]⟩ : ByteArray), .int .i64 0, .string (⟨#[]⟩ : ByteArray), .int .i64 0, .bool false, .bool false, .slice none 0 0]) ?_ 5 _ rfl; (with_reducible repeat (first | refine blk_drewN ?_ _ | refine blk_drew ?_ | refine blk_alloc ?_ _)); refine blk_put (cs := #[.string (⟨#[]⟩ : ByteArray), .int .i64 0, .string (⟨#[]⟩ : ByteArray), .int .i64 0, .bool false, .bool false, .slice none 0 0]) ?_ 4 _ rfl; (with_reducible repeat (first | refine blk_drewN ?_ _ | refine blk_drew ?_ | refine blk_alloc ?_ _)); refine blk_put (cs := #[.string (⟨#[]⟩ : ByteArray), .int .i64 0, .string (⟨#[]⟩ : ByteArray), .int .i64 0, .bool false, .bool false, .slice none 0 0]) ?_ 3 _ rfl; (with_reducible repeat (first | refine blk_drewN ?_ _ | refine blk_drew ?_ | refine blk_alloc ?_ _)); refine blk_put (cs := #[.string (⟨#[]⟩ : ByteArray), .int .i64 0, .string (⟨#[]⟩ : ByteArray), .int .i64 0, .bool false, .bool false, .slice none 0 0]) ?_ 2 _ rfl; (with_reducible repeat (first | refine blk_drewN ?_ _ | refine blk_drew ?_ | refine blk_alloc ?_ _)); refine blk_put (cs := #[.string (⟨#[]⟩ : ByteArray), .int .i64 0, .string (⟨#[]⟩ : ByteArray), .int .i64 0, .bool false, .bool false, .slice none 0 0]) ?_ 1 _ rfl; (with_reducible repeat (first | refine blk_drewN ?_ _ | refine blk_drew ?_ | refine blk_alloc ?_ _)); refine blk_put (cs := #[.string (⟨#[]⟩ : ByteArray), .int .i64 0, .string (⟨#[]⟩ : ByteArray), .int .i64 0, .bool false, .bool false, .slice none 0 0]) ?_ 0 _ rfl; (with_reducible repeat (first | refine blk_drewN ?_ _ | refine blk_drew ?_ | refine blk_alloc ?_ _)); exact BK118.out) Tryd.underlying26 rfl (by kernel_rfl)) rfl ?_
     exact ⟨_, by first | rfl | (simp [errW_none, errW_some] <;> rfl) | (simp [*, errW_none, errW_some] <;> rfl), by first | exact Kd.R_nil _ _ _ _ _ | exact Kd.N_nil _ _ _ _ _ | exact Kd.V_nil _ _ _ _ _ | exact Kd.Q_nil _ _ _ _ _ | exact Kd.S_nil _ _ _ _ _, by repeat (first | (with_reducible first | exact HB.out | apply below_alloc | apply pw_below_drewN | apply below_drew1 | refine below_set ?_ GE116.out | refine below_set ?_ GE117.out | refine below_set ?_ GE118.out | refine below_set ?_ GE119.out) | exact HB.out)⟩

end Go.Proofs.YtpmieapgbdbabaaDoor.QAll
end

section
/- Walks, written by a program of this session (wip/pp): a Go function comes to what the Lean function beside it tells. -/
namespace Go.Proofs.YtpmieapgbdbabaaDoor.QAll
open Go.RowKit Go.Proofs.YtpmieapgbdbabaaDoorW.PrintWords Go.Proofs.YtpmieapgbdbabaaDoorW.PrintLast Go.Proofs.YtpmieapgbdbabaaDoorW.PrintMore
set_option linter.unusedVariables false
set_option linter.unusedSimpArgs false

def path_Next.f (a0_0 : ByteArray) (a0_1 : Int) (a0_2 : ByteArray) (a0_3 : Int) (a0_4 : Bool) (a0_5 : Bool) (l0_6 : List (S93)) : Option (ByteArray × Int × Bool) := (path_next.f a0_0 a0_1 a0_2 a0_3 a0_4 a0_5 l0_6).bind fun t103 => (if t103 < 0 then (some ((⟨#[]⟩ : ByteArray), 0, false)) else (if 0 ≤ t103 then (if t103 < (l0_6.length : Int) then (some ((rd_T93 l0_6 t103).f0.f0, (rd_T93 l0_6 t103).f0.f1, true)) else (none)) else (none)))
set_option maxHeartbeats 8000000 in
set_option maxRecDepth 100000 in
theorem path_Next.calls (a0_0 : ByteArray) (a0_1 : Int) (a0_2 : ByteArray) (a0_3 : Int) (a0_4 : Bool) (a0_5 : Bool) (A0_6 : Option Addr) (c0_6 : Nat) (l0_6 : List (S93)) (r1 : ByteArray) (r2 : Int) (r3 : Bool) (w : World) (hr0_6 : Kd.C k93 w A0_6 l0_6.length l0_6) (hc0_6 : l0_6.length ≤ c0_6) (h : path_Next.f a0_0 a0_1 a0_2 a0_3 a0_4 a0_5 l0_6 = some (r1, r2, r3)) :
  Calls Tryd.prog 18 #[.agg #[.string a0_0, .int .i64 a0_1, .string a0_2, .int .i64 a0_3, .bool a0_4, .bool a0_5, .slice A0_6 l0_6.length c0_6]] w fun e w' => e = .returned (.tuple #[.agg #[.string r1, .int .i64 r2], .bool r3]) ∧ Below w.heap.size w w' := by
 have hu26 := Tryd.underlying26
 have hu23 := Tryd.underlying23
 have HR0_6 := Aside0.mk hr0_6
 have HC0_6 := Aside0.mk hc0_6
 clear hr0_6 hc0_6
 have HB := Aside0.mk (Below.refl w.heap.size w)
 have H : ((path_next.f a0_0 a0_1 a0_2 a0_3 a0_4 a0_5 l0_6).bind fun t103 => (if t103 < 0 then (some ((⟨#[]⟩ : ByteArray), 0, false)) else (if 0 ≤ t103 then (if t103 < (l0_6.length : Int) then (some ((rd_T93 l0_6 t103).f0.f0, (rd_T93 l0_6 t103).f0.f1, true)) else (none)) else (none)))) = some (r1, r2, r3) := h
 clear h
 replace H := Option.bind_eq_some_iff.mp H
 obtain ⟨t103, A20, H⟩ := H
 replace H : (if t103 < 0 then (some ((⟨#[]⟩ : ByteArray), 0, false)) else (if 0 ≤ t103 then (if t103 < (l0_6.length : Int) then (some ((rd_T93 l0_6 t103).f0.f0, (rd_T93 l0_6 t103).f0.f1, true)) else (none)) else (none))) = some (r1, r2, r3) := H
 have A2 := Aside0.mk A20
 clear A20
 by_cases c3 : t103 < 0
 ·rw [if_pos c3] at H
  have c3b0 : decide (t103 < 0) = true := decide_eq_true c3
  clear c3
  simp only [Option.some.injEq, Prod.mk.injEq] at H
  obtain ⟨rfl, rfl, rfl⟩ := H
  go_enter Tryd.func18, Tryd.ntmps18
  go_wp2_with (first | ((with_reducible refine gate_dst (N := 1) rfl ?_); refine box_event ?hg (N := 1) ?hd (cs := #[.string a0_0, .int .i64 a0_1, .string a0_2, .int .i64 a0_3, .bool a0_4, .bool a0_5, .slice A0_6 l0_6.length c0_6]) (t := 26) ?hr ?_; (case hd => rfl); (case hg => rfl); (case hr => first | (go_simp; done) | (go_simp; rfl)); intro gb101 hg w4 hbox hb; have n0_ := Aside0.mk (below_step (by repeat (first | (with_reducible first | exact HB.out | apply below_alloc | apply pw_below_drewN | apply below_drew1) | exact HB.out)) hb); have n1_ := Aside0.mk (hbox); have n2_ := Aside0.mk ((by rw [hg]; exact (below_size (by repeat (first | (with_reducible first | exact HB.out | apply below_alloc | apply pw_below_drewN | apply below_drew1) | exact HB.out))) : w.heap.size ≤ gb101)); have n3_ := Aside0.mk ((by rw [hg]; exact (below_size (by repeat (first | (with_reducible first | exact HB.out | apply below_alloc | apply pw_below_drewN | apply below_drew1) | exact HB.out))) : w.heap.size ≤ gb101)); clear HB; have HB := n0_; have BK101 := n1_; have GW101 := n2_; have GE101 := n3_; clear n0_ n1_ n2_ n3_; clear hb hbox hg) | ((with_reducible refine gate_dst (N := 2) rfl ?_); refine box_event ?hg (N := 2) ?hd (cs := #[.string (⟨#[]⟩ : ByteArray), .int .i64 0]) (t := 23) ?hr ?_; (case hd => rfl); (case hg => rfl); (case hr => first | (go_simp; done) | (go_simp; rfl)); intro gb102 hg w5 hbox hb; have n0_ := Aside0.mk (blk_below (g := gb101) (o := .cells #[.string a0_0, .int .i64 a0_1, .string a0_2, .int .i64 a0_3, .bool a0_4, .bool a0_5, .slice A0_6 l0_6.length c0_6] 26 (0, 0)) (by (with_reducible repeat (first | refine blk_drewN ?_ _ | refine blk_drew ?_ | refine blk_alloc ?_ _)); exact BK101.out) hb); have n1_ := Aside0.mk (below_step (by repeat (first | (with_reducible first | exact HB.out | apply below_alloc | apply pw_below_drewN | apply below_drew1 | refine below_set ?_ GE101.out) | exact HB.out)) hb); have n2_ := Aside0.mk (hbox); have n3_ := Aside0.mk ((by rw [hg]; exact (below_size (by repeat (first | (with_reducible first | exact HB.out | apply below_alloc | apply pw_below_drewN | apply below_drew1 | refine below_set ?_ GE101.out) | exact HB.out))) : w.heap.size ≤ gb102)); have n4_ := Aside0.mk ((by rw [hg]; exact (below_size (by repeat (first | (with_reducible first | exact HB.out | apply below_alloc | apply pw_below_drewN | apply below_drew1 | refine below_set ?_ GE101.out) | exact HB.out))) : w.heap.size ≤ gb102)); have n5_ := Aside0.mk ((by rw [hg]; exact Nat.ne_of_lt (blk_lt (g := gb101) (o := .cells #[.string a0_0, .int .i64 a0_1, .string a0_2, .int .i64 a0_3, .bool a0_4, .bool a0_5, .slice A0_6 l0_6.length c0_6] 26 (0, 0)) (by (with_reducible repeat (first | refine blk_drewN ?_ _ | refine blk_drew ?_ | refine blk_alloc ?_ _)); exact BK101.out)) : gb101 ≠ gb102)); have n6_ := Aside0.mk ((by rw [hg]; exact Nat.ne_of_gt (blk_lt (g := gb101) (o := .cells #[.string a0_0, .int .i64 a0_1, .string a0_2, .int .i64 a0_3, .bool a0_4, .bool a0_5, .slice A0_6 l0_6.length c0_6] 26 (0, 0)) (by (with_reducible repeat (first | refine blk_drewN ?_ _ | refine blk_drew ?_ | refine blk_alloc ?_ _)); exact BK101.out)) : gb102 ≠ gb101)); clear BK101; clear HB; have BK101 := n0_; have HB := n1_; have BK102 := n2_; have GW102 := n3_; have GE102 := n4_; have NB101_102 := n5_; have NB102_101 := n6_; clear n0_ n1_ n2_ n3_ n4_ n5_ n6_; clear hb hbox hg; have hnb6 := NB101_102.out; have hnc6 := NB102_101.out; have hcz7_0 : w5.cell? ⟨gb101, 0, none⟩ = some (.string a0_0) := (blk_cell BK101.out 0).trans rfl; have hcz7_1 : w5.cell? ⟨gb101, 1, none⟩ = some (.int .i64 a0_1) := (blk_cell BK101.out 1).trans rfl; have hcz7_2 : w5.cell? ⟨gb101, 2, none⟩ = some (.string a0_2) := (blk_cell BK101.out 2).trans rfl; have hcz7_3 : w5.cell? ⟨gb101, 3, none⟩ = some (.int .i64 a0_3) := (blk_cell BK101.out 3).trans rfl; have hcz7_4 : w5.cell? ⟨gb101, 4, none⟩ = some (.bool a0_4) := (blk_cell BK101.out 4).trans rfl; have hcz7_5 : w5.cell? ⟨gb101, 5, none⟩ = some (.bool a0_5) := (blk_cell BK101.out 5).trans rfl; have hcz7_6 : w5.cell? ⟨gb101, 6, none⟩ = some (.slice A0_6 l0_6.length c0_6) := (blk_cell BK101.out 6).trans rfl; have hfz7_0 := blk_frozen BK101.out 0; have hfz7_1 := blk_frozen BK101.out 1; have hfz7_2 := blk_frozen BK101.out 2; have hfz7_3 := blk_frozen BK101.out 3; have hfz7_4 := blk_frozen BK101.out 4; have hfz7_5 := blk_frozen BK101.out 5; have hfz7_6 := blk_frozen BK101.out 6) | ((with_reducible refine gate_callee (f := 58) rfl ?_); refine goesL_ (some 6) rfl rfl Tryd.func58 (by kernel_rfl) rfl #[.agg #[.string a0_0, .int .i64 a0_1, .string a0_2, .int .i64 a0_3, .bool a0_4, .bool a0_5, .slice A0_6 l0_6.length c0_6]] rfl (by (try simp only [List.map_toArray, List.map_cons, List.map_nil]); first | done | rfl | (simp only [List.length_drop, List.length_take]; rfl)) ?_; (with_reducible refine (path_next.calls a0_0 a0_1 a0_2 a0_3 a0_4 a0_5 _ _ l0_6 t103 _ ?side1 ?side2 A2.out).mono ?_); (case side1 => repeat (first | exact (Kd.C_below HR0_6.out HB.out) | (with_reducible refine Kd.C_alloc ?_ _) | (with_reducible refine Kd.C_drewN ?_ _) | (with_reducible refine Kd.C_drew ?_))); (case side2 => exact HC0_6.out); rintro e w8 ⟨rfl, hb⟩; refine ⟨_, rfl, ?_⟩; have n0_ := Aside0.mk (blk_below (g := gb101) (o := .cells #[.string a0_0, .int .i64 a0_1, .string a0_2, .int .i64 a0_3, .bool a0_4, .bool a0_5, .slice A0_6 l0_6.length c0_6] 26 (0, 0)) (by (with_reducible repeat (first | refine blk_drewN ?_ _ | refine blk_drew ?_ | refine blk_alloc ?_ _)); exact BK101.out) hb); have n1_ := Aside0.mk (blk_below (g := gb102) (o := .cells #[.string (⟨#[]⟩ : ByteArray), .int .i64 0] 23 (0, 0)) (by (with_reducible repeat (first | refine blk_drewN ?_ _ | refine blk_drew ?_ | refine blk_alloc ?_ _)); exact BK102.out) hb); have n2_ := Aside0.mk (below_step (by repeat (first | (with_reducible first | exact HB.out | apply below_alloc | apply pw_below_drewN | apply below_drew1 | refine below_set ?_ GE101.out | refine below_set ?_ GE102.out) | exact HB.out)) hb); clear BK101; clear BK102; clear HB; have BK101 := n0_; have BK102 := n1_; have HB := n2_; clear n0_ n1_ n2_; (try clear hb); (try clear hb2); (try clear hk); (try clear hi); have hcz9_0 : w8.cell? ⟨gb102, 0, none⟩ = some (.string (⟨#[]⟩ : ByteArray)) := (blk_cell BK102.out 0).trans rfl; have hcz9_1 : w8.cell? ⟨gb102, 1, none⟩ = some (.int .i64 0) := (blk_cell BK102.out 1).trans rfl; have hfz9_0 := blk_frozen BK102.out 0; have hfz9_1 := blk_frozen BK102.out 1))
  refine bodyPost_ret (results_ct rfl _ _ gb102 23 #[.string (⟨#[]⟩ : ByteArray), .int .i64 0] (0, 0) _ rfl (by (with_reducible repeat (first | refine blk_drewN ?_ _ | refine blk_drew ?_ | refine blk_alloc ?_ _)); refine blk_put (cs := #[.string (⟨#[]⟩ : ByteArray), .int .i64 0]) ?_ 1 _ rfl; (with_reducible repeat (first | refine blk_drewN ?_ _ | refine blk_drew ?_ | refine blk_alloc ?_ _)); refine blk_put (cs := #[.string (⟨#[]⟩ : ByteArray), .int .i64 0]) ?_ 0 _ rfl; (with_reducible repeat (first | refine blk_drewN ?_ _ | refine blk_drew ?_ | refine blk_alloc ?_ _)); exact BK102.out) Tryd.underlying23 rfl (by kernel_rfl)) rfl ?_
  exact ⟨by first | rfl | (simp [errW_none, errW_some] <;> rfl) | (simp [*, errW_none, errW_some] <;> rfl), by repeat (first | (with_reducible first | exact HB.out | apply below_alloc | apply pw_below_drewN | apply below_drew1 | refine below_set ?_ GE101.out | refine below_set ?_ GE102.out) | exact HB.out)⟩
 ·rw [if_neg c3] at H
  have c3b0 : decide (t103 < 0) = false := decide_eq_false c3
  clear c3
  by_cases c10 : 0 ≤ t103
  ·rw [if_pos c10] at H
   have c10b0 : decide (0 ≤ t103) = true := decide_eq_true c10
   clear c10
   by_cases c11 : t103 < (l0_6.length : Int)
   ·rw [if_pos c11] at H
    have c11b0 : decide (t103 < (l0_6.length : Int)) = true := decide_eq_true c11
    clear c11
    simp only [Option.some.injEq, Prod.mk.injEq] at H
    obtain ⟨rfl, rfl, rfl⟩ := H
    go_enter Tryd.func18, Tryd.ntmps18
    go_wp2_with (first | ((with_reducible refine gate_dst (N := 1) rfl ?_); refine box_event ?hg (N := 1) ?hd (cs := #[.string a0_0, .int .i64 a0_1, .string a0_2, .int .i64 a0_3, .bool a0_4, .bool a0_5, .slice A0_6 l0_6.length c0_6]) (t := 26) ?hr ?_; (case hd => rfl); (case hg => rfl); (case hr => first | (go_simp; done) | (go_simp; rfl)); intro gb101 hg w12 hbox hb; have n0_ := Aside0.mk (below_step (by repeat (first | (with_reducible first | exact HB.out | apply below_alloc | apply pw_below_drewN | apply below_drew1) | exact HB.out)) hb); have n1_ := Aside0.mk (hbox); have n2_ := Aside0.mk ((by rw [hg]; exact (below_size (by repeat (first | (with_reducible first | exact HB.out | apply below_alloc | apply pw_below_drewN | apply below_drew1) | exact HB.out))) : w.heap.size ≤ gb101)); have n3_ := Aside0.mk ((by rw [hg]; exact (below_size (by repeat (first | (with_reducible first | exact HB.out | apply below_alloc | apply pw_below_drewN | apply below_drew1) | exact HB.out))) : w.heap.size ≤ gb101)); clear HB; have HB := n0_; have BK101 := n1_; have GW101 := n2_; have GE101 := n3_; clear n0_ n1_ n2_ n3_; clear hb hbox hg) | ((with_reducible refine gate_dst (N := 2) rfl ?_); refine box_event ?hg (N := 2) ?hd (cs := #[.string (⟨#[]⟩ : ByteArray), .int .i64 0]) (t := 23) ?hr ?_; (case hd => rfl); (case hg => rfl); (case hr => first | (go_simp; done) | (go_simp; rfl)); intro gb102 hg w13 hbox hb; have n0_ := Aside0.mk (blk_below (g := gb101) (o := .cells #[.string a0_0, .int .i64 a0_1, .string a0_2, .int .i64 a0_3, .bool a0_4, .bool a0_5, .slice A0_6 l0_6.length c0_6] 26 (0, 0)) (by (with_reducible repeat (first | refine blk_drewN ?_ _ | refine blk_drew ?_ | refine blk_alloc ?_ _)); exact BK101.out) hb); have n1_ := Aside0.mk (below_step (by repeat (first | (with_reducible first | exact HB.out | apply below_alloc | apply pw_below_drewN | apply below_drew1 | refine below_set ?_ GE101.out) | exact HB.out)) hb); have n2_ := Aside0.mk (hbox); have n3_ := Aside0.mk ((by rw [hg]; exact (below_size (by repeat (first | (with_reducible first | exact HB.out | apply below_alloc | apply pw_below_drewN | apply below_drew1 | refine below_set ?_ GE101.out) | exact HB.out))) : w.heap.size ≤ gb102)); have n4_ := Aside0.mk ((by rw [hg]; exact (below_size (by repeat (first | (with_reducible first | exact HB.out | apply below_alloc | apply pw_below_drewN | apply below_drew1 | refine below_set ?_ GE101.out) | exact HB.out))) : w.heap.size ≤ gb102)); have n5_ := Aside0.mk ((by rw [hg]; exact Nat.ne_of_lt (blk_lt (g := gb101) (o := .cells #[.string a0_0, .int .i64 a0_1, .string a0_2, .int .i64 a0_3, .bool a0_4, .bool a0_5, .slice A0_6 l0_6.length c0_6] 26 (0, 0)) (by (with_reducible repeat (first | refine blk_drewN ?_ _ | refine blk_drew ?_ | refine blk_alloc ?_ _)); exact BK101.out)) : gb101 ≠ gb102)); have n6_ := Aside0.mk ((by rw [hg]; exact Nat.ne_of_gt (blk_lt (g := gb101) (o := .cells #[.string a0_0, .int .i64 a0_1, .string a0_2, .int .i64 a0_3, .bool a0_4, .bool a0_5, .slice A0_6 l0_6.length c0_6] 26 (0, 0)) (by (with_reducible repeat (first | refine blk_drewN ?_ _ | refine blk_drew ?_ | refine blk_alloc ?_ _)); exact BK101.out)) : gb102 ≠ gb101)); clear BK101; clear HB; have BK101 := n0_; have HB := n1_; have BK102 := n2_; have GW102 := n3_; have GE102 := n4_; have NB101_102 := n5_; have NB102_101 := n6_; clear n0_ n1_ n2_ n3_ n4_ n5_ n6_; clear hb hbox hg; have hnb14 := NB101_102.out; have hnc14 := NB102_101.out; have hcz15_0 : w13.cell? ⟨gb101, 0, none⟩ = some (.string a0_0) := (blk_cell BK101.out 0).trans rfl; have hcz15_1 : w13.cell? ⟨gb101, 1, none⟩ = some (.int .i64 a0_1) := (blk_cell BK101.out 1).trans rfl; have hcz15_2 : w13.cell? ⟨gb101, 2, none⟩ = some (.string a0_2) := (blk_cell BK101.out 2).trans rfl; have hcz15_3 : w13.cell? ⟨gb101, 3, none⟩ = some (.int .i64 a0_3) := (blk_cell BK101.out 3).trans rfl; have hcz15_4 : w13.cell? ⟨gb101, 4, none⟩ = some (.bool a0_4) := (blk_cell BK101.out 4).trans rfl; have hcz15_5 : w13.cell? ⟨gb101, 5, none⟩ = some (.bool a0_5) := (blk_cell BK101.out 5).trans rfl; have hcz15_6 : w13.cell? ⟨gb101, 6, none⟩ = some (.slice A0_6 l0_6.length c0_6) := (blk_cell BK101.out 6).trans rfl; have hfz15_0 := blk_frozen BK101.out 0; have hfz15_1 := blk_frozen BK101.out 1; have hfz15_2 := blk_frozen BK101.out 2; have hfz15_3 := blk_frozen BK101.out 3; have hfz15_4 := blk_frozen BK101.out 4; have hfz15_5 := blk_frozen BK101.out 5; have hfz15_6 := blk_frozen BK101.out 6) | ((with_reducible refine gate_callee (f := 58) rfl ?_); refine goesL_ (some 6) rfl rfl Tryd.func58 (by kernel_rfl) rfl #[.agg #[.string a0_0, .int .i64 a0_1, .string a0_2, .int .i64 a0_3, .bool a0_4, .bool a0_5, .slice A0_6 l0_6.length c0_6]] rfl (by (try simp only [List.map_toArray, List.map_cons, List.map_nil]); first | done | rfl | (simp only [List.length_drop, List.length_take]; rfl)) ?_; (with_reducible refine (path_next.calls a0_0 a0_1 a0_2 a0_3 a0_4 a0_5 _ _ l0_6 t103 _ ?side1 ?side2 A2.out).mono ?_); (case side1 => repeat (first | exact (Kd.C_below HR0_6.out HB.out) | (with_reducible refine Kd.C_alloc ?_ _) | (with_reducible refine Kd.C_drewN ?_ _) | (with_reducible refine Kd.C_drew ?_))); (case side2 => exact HC0_6.out); rintro e w16 ⟨rfl, hb⟩; refine ⟨_, rfl, ?_⟩; have n0_ := Aside0.mk (blk_below (g := gb101) (o := .cells #[.string a0_0, .int .i64 a0_1, .string a0_2, .int .i64 a0_3, .bool a0_4, .bool a0_5, .slice A0_6 l0_6.length c0_6] 26 (0, 0)) (by (with_reducible repeat (first | refine blk_drewN ?_ _ | refine blk_drew ?_ | refine blk_alloc ?_ _)); exact BK101.out) hb); have n1_ := Aside0.mk (blk_below (g := gb102) (o := .cells #[.string (⟨#[]⟩ : ByteArray), .int .i64 0] 23 (0, 0)) (by (with_reducible repeat (first | refine blk_drewN ?_ _ | refine blk_drew ?_ | refine blk_alloc ?_ _)); exact BK102.out) hb); have n2_ := Aside0.mk (below_step (by repeat (first | (with_reducible first | exact HB.out | apply below_alloc | apply pw_below_drewN | apply below_drew1 | refine below_set ?_ GE101.out | refine below_set ?_ GE102.out) | exact HB.out)) hb); clear BK101; clear BK102; clear HB; have BK101 := n0_; have BK102 := n1_; have HB := n2_; clear n0_ n1_ n2_; (try clear hb); (try clear hb2); (try clear hk); (try clear hi); have hcz17_0 : w16.cell? ⟨gb101, 0, none⟩ = some (.string a0_0) := (blk_cell BK101.out 0).trans rfl; have hcz17_1 : w16.cell? ⟨gb101, 1, none⟩ = some (.int .i64 a0_1) := (blk_cell BK101.out 1).trans rfl; have hcz17_2 : w16.cell? ⟨gb101, 2, none⟩ = some (.string a0_2) := (blk_cell BK101.out 2).trans rfl; have hcz17_3 : w16.cell? ⟨gb101, 3, none⟩ = some (.int .i64 a0_3) := (blk_cell BK101.out 3).trans rfl; have hcz17_4 : w16.cell? ⟨gb101, 4, none⟩ = some (.bool a0_4) := (blk_cell BK101.out 4).trans rfl; have hcz17_5 : w16.cell? ⟨gb101, 5, none⟩ = some (.bool a0_5) := (blk_cell BK101.out 5).trans rfl; have hcz17_6 : w16.cell? ⟨gb101, 6, none⟩ = some (.slice A0_6 l0_6.length c0_6) := (blk_cell BK101.out 6).trans rfl; have hfz17_0 := blk_frozen BK101.out 0; have hfz17_1 := blk_frozen BK101.out 1; have hfz17_2 := blk_frozen BK101.out 2; have hfz17_3 := blk_frozen BK101.out 3; have hfz17_4 := blk_frozen BK101.out 4; have hfz17_5 := blk_frozen BK101.out 5; have hfz17_6 := blk_frozen BK101.out 6; have p104 : 0 ≤ (t103 : Int) := of_decide_eq_true (by first | (with_reducible assumption) | assumption); have q104 : t103 < (l0_6.length : Int) := of_decide_eq_true (by first | (with_reducible assumption) | assumption); obtain ⟨ad104, e104, hx104_0, hx104_1, hx104_2⟩ := at_T93 HR0_6.out t103 p104 q104; cases e104; replace hx104_0 := (HB.out.cell (World.block_lt_of_cell? w _ hx104_0)).trans hx104_0; replace hx104_1 := (HB.out.cell (World.block_lt_of_cell? w _ hx104_1)).trans hx104_1; replace hx104_2 := (HB.out.cell (World.block_lt_of_cell? w _ hx104_2)).trans hx104_2; replace p104 := eq_true p104; replace q104 := eq_true q104; have hcz18_0 : w16.cell? ⟨gb102, 0, none⟩ = some (.string (⟨#[]⟩ : ByteArray)) := (blk_cell BK102.out 0).trans rfl; have hcz18_1 : w16.cell? ⟨gb102, 1, none⟩ = some (.int .i64 0) := (blk_cell BK102.out 1).trans rfl; have hfz18_0 := blk_frozen BK102.out 0; have hfz18_1 := blk_frozen BK102.out 1))
    refine bodyPost_ret (results_ct rfl _ _ gb102 23 #[.string ((rd_T93 l0_6 t103).f0.f0), .int .i64 ((rd_T93 l0_6 t103).f0.f1)] (0, 0) _ rfl (by (with_reducible repeat (first | refine blk_drewN ?_ _ | refine blk_drew ?_ | refine blk_alloc ?_ _)); refine blk_put (cs := #[.string ((rd_T93 l0_6 t103).f0.f0), .int .i64 0]) ?_ 1 _ rfl; (with_reducible repeat (first | refine blk_drewN ?_ _ | refine blk_drew ?_ | refine blk_alloc ?_ _)); refine blk_put (cs := #[.string (⟨#[]⟩ : ByteArray), .int .i64 0]) ?_ 0 _ rfl; (with_reducible repeat (first | refine blk_drewN ?_ _ | refine blk_drew ?_ | refine blk_alloc ?_ _)); exact BK102.out) Tryd.underlying23 rfl (by kernel_rfl)) rfl ?_
    exact ⟨by first | rfl | (simp [errW_none, errW_some] <;> rfl) | (simp [*, errW_none, errW_some] <;> rfl), by repeat (first | (with_reducible first | exact HB.out | apply below_alloc | apply pw_below_drewN | apply below_drew1 | refine below_set ?_ GE101.out | refine below_set ?_ GE102.out) | exact HB.out)⟩
   ·rw [if_neg c11] at H
    exact absurd H (by simp)
  ·rw [if_neg c10] at H
   exact absurd H (by simp)

end Go.Proofs.YtpmieapgbdbabaaDoor.QAll
end

section
/- Walks, written by a program of this session (wip/pp): a Go function comes to what the Lean function beside it tells. -/
namespace Go.Proofs.YtpmieapgbdbabaaDoor.QAll
open Go.RowKit Go.Proofs.YtpmieapgbdbabaaDoorW.PrintWords Go.Proofs.YtpmieapgbdbabaaDoorW.PrintLast Go.Proofs.YtpmieapgbdbabaaDoorW.PrintMore
set_option linter.unusedVariables false
set_option linter.unusedSimpArgs false

def path_Command.f (a0_0 : ByteArray) (a0_1 : Int) (a0_2 : ByteArray) (a0_3 : Int) (a0_4 : Bool) (a0_5 : Bool) (l0_6 : List (S93)) : Option (Bool) := if a0_4 = true then (some (!a0_5)) else (some false)
set_option maxHeartbeats 8000000 in
set_option maxRecDepth 100000 in
theorem path_Command.calls (a0_0 : ByteArray) (a0_1 : Int) (a0_2 : ByteArray) (a0_3 : Int) (a0_4 : Bool) (a0_5 : Bool) (A0_6 : Option Addr) (c0_6 : Nat) (l0_6 : List (S93)) (r : Bool) (w : World) (hr0_6 : Kd.C k93 w A0_6 l0_6.length l0_6) (hc0_6 : l0_6.length ≤ c0_6) (h : path_Command.f a0_0 a0_1 a0_2 a0_3 a0_4 a0_5 l0_6 = some r) :
  Calls Tryd.prog 25 #[.agg #[.string a0_0, .int .i64 a0_1, .string a0_2, .int .i64 a0_3, .bool a0_4, .bool a0_5, .slice A0_6 l0_6.length c0_6]] w fun e w' => e = .returned (.bool r) ∧ Below w.heap.size w w' := by
 have hu26 := Tryd.underlying26
 have HR0_6 := Aside0.mk hr0_6
 have HC0_6 := Aside0.mk hc0_6
 clear hr0_6 hc0_6
 have HB := Aside0.mk (Below.refl w.heap.size w)
 have H : (if a0_4 = true then (some (!a0_5)) else (some false)) = some r := h
 clear h
 by_cases c2 : a0_4 = true
 ·subst c2
  have H1 : (some (!a0_5)) = some r := by rw [if_pos rfl] at H; exact H
  clear H
  have H := H1
  clear H1
  obtain rfl := Option.some.inj H
  go_enter Tryd.func25, Tryd.ntmps25
  go_wp2_with (first | ((with_reducible refine gate_dst (N := 1) rfl ?_); refine box_event ?hg (N := 1) ?hd (cs := #[.string a0_0, .int .i64 a0_1, .string a0_2, .int .i64 a0_3, .bool true, .bool a0_5, .slice A0_6 l0_6.length c0_6]) (t := 26) ?hr ?_; (case hd => rfl); (case hg => rfl); (case hr => first | (go_simp; done) | (go_simp; rfl)); intro gb112 hg w3 hbox hb; have n0_ := Aside0.mk (below_step (by repeat (first | (with_reducible first | exact HB.out | apply below_alloc | apply pw_below_drewN | apply below_drew1) | exact HB.out)) hb); have n1_ := Aside0.mk (hbox); have n2_ := Aside0.mk ((by rw [hg]; exact (below_size (by repeat (first | (with_reducible first | exact HB.out | apply below_alloc | apply pw_below_drewN | apply below_drew1) | exact HB.out))) : w.heap.size ≤ gb112)); have n3_ := Aside0.mk ((by rw [hg]; exact (below_size (by repeat (first | (with_reducible first | exact HB.out | apply below_alloc | apply pw_below_drewN | apply below_drew1) | exact HB.out))) : w.heap.size ≤ gb112)); clear HB; have HB := n0_; have BK112 := n1_; have GW112 := n2_; have GE112 := n3_; clear n0_ n1_ n2_ n3_; clear hb hbox hg; have hcz4_0 : w3.cell? ⟨gb112, 0, none⟩ = some (.string a0_0) := (blk_cell BK112.out 0).trans rfl; have hcz4_1 : w3.cell? ⟨gb112, 1, none⟩ = some (.int .i64 a0_1) := (blk_cell BK112.out 1).trans rfl; have hcz4_2 : w3.cell? ⟨gb112, 2, none⟩ = some (.string a0_2) := (blk_cell BK112.out 2).trans rfl; have hcz4_3 : w3.cell? ⟨gb112, 3, none⟩ = some (.int .i64 a0_3) := (blk_cell BK112.out 3).trans rfl; have hcz4_4 : w3.cell? ⟨gb112, 4, none⟩ = some (.bool true) := (blk_cell BK112.out 4).trans rfl; have hcz4_5 : w3.cell? ⟨gb112, 5, none⟩ = some (.bool a0_5) := (blk_cell BK112.out 5).trans rfl; have hcz4_6 : w3.cell? ⟨gb112, 6, none⟩ = some (.slice A0_6 l0_6.length c0_6) := (blk_cell BK112.out 6).trans rfl; have hfz4_0 := blk_frozen BK112.out 0; have hfz4_1 := blk_frozen BK112.out 1; have hfz4_2 := blk_frozen BK112.out 2; have hfz4_3 := blk_frozen BK112.out 3; have hfz4_4 := blk_frozen BK112.out 4; have hfz4_5 := blk_frozen BK112.out 5; have hfz4_6 := blk_frozen BK112.out 6))
  go_ret
  exact ⟨by first | rfl | (simp [errW_none, errW_some] <;> rfl) | (simp [*, errW_none, errW_some] <;> rfl), by repeat (first | (with_reducible first | exact HB.out | apply below_alloc | apply pw_below_drewN | apply below_drew1 | refine below_set ?_ GE112.out) | exact HB.out)⟩
 ·replace c2 := Bool.eq_false_iff.mpr c2
  subst c2
  have H1 : (some false) = some r := by rw [if_neg (show ¬ (false = true) by decide)] at H; exact H
  clear H
  have H := H1
  clear H1
  obtain rfl := Option.some.inj H
  go_enter Tryd.func25, Tryd.ntmps25
  go_wp2_with (first | ((with_reducible refine gate_dst (N := 1) rfl ?_); refine box_event ?hg (N := 1) ?hd (cs := #[.string a0_0, .int .i64 a0_1, .string a0_2, .int .i64 a0_3, .bool false, .bool a0_5, .slice A0_6 l0_6.length c0_6]) (t := 26) ?hr ?_; (case hd => rfl); (case hg => rfl); (case hr => first | (go_simp; done) | (go_simp; rfl)); intro gb112 hg w5 hbox hb; have n0_ := Aside0.mk (below_step (by repeat (first | (with_reducible first | exact HB.out | apply below_alloc | apply pw_below_drewN | apply below_drew1) | exact HB.out)) hb); have n1_ := Aside0.mk (hbox); have n2_ := Aside0.mk ((by rw [hg]; exact (below_size (by repeat (first | (with_reducible first | exact HB.out | apply below_alloc | apply pw_below_drewN | apply below_drew1) | exact HB.out))) : w.heap.size ≤ gb112)); have n3_ := Aside0.mk ((by rw [hg]; exact (below_size (by repeat (first | (with_reducible first | exact HB.out | apply below_alloc | apply pw_below_drewN | apply below_drew1) | exact HB.out))) : w.heap.size ≤ gb112)); clear HB; have HB := n0_; have BK112 := n1_; have GW112 := n2_; have GE112 := n3_; clear n0_ n1_ n2_ n3_; clear hb hbox hg; have hcz6_0 : w5.cell? ⟨gb112, 0, none⟩ = some (.string a0_0) := (blk_cell BK112.out 0).trans rfl; have hcz6_1 : w5.cell? ⟨gb112, 1, none⟩ = some (.int .i64 a0_1) := (blk_cell BK112.out 1).trans rfl; have hcz6_2 : w5.cell? ⟨gb112, 2, none⟩ = some (.string a0_2) := (blk_cell BK112.out 2).trans rfl; have hcz6_3 : w5.cell? ⟨gb112, 3, none⟩ = some (.int .i64 a0_3) := (blk_cell BK112.out 3).trans rfl; have hcz6_4 : w5.cell? ⟨gb112, 4, none⟩ = some (.bool false) := (blk_cell BK112.out 4).trans rfl; have hcz6_5 : w5.cell? ⟨gb112, 5, none⟩ = some (.bool a0_5) := (blk_cell BK112.out 5).trans rfl; have hcz6_6 : w5.cell? ⟨gb112, 6, none⟩ = some (.slice A0_6 l0_6.length c0_6) := (blk_cell BK112.out 6).trans rfl; have hfz6_0 := blk_frozen BK112.out 0; have hfz6_1 := blk_frozen BK112.out 1; have hfz6_2 := blk_frozen BK112.out 2; have hfz6_3 := blk_frozen BK112.out 3; have hfz6_4 := blk_frozen BK112.out 4; have hfz6_5 := blk_frozen BK112.out 5; have hfz6_6 := blk_frozen BK112.out 6))
  go_ret
  exact ⟨by first | rfl | (simp [errW_none, errW_some] <;> rfl) | (simp [*, errW_none, errW_some] <;> rfl), by repeat (first | (with_reducible first | exact HB.out | apply below_alloc | apply pw_below_drewN | apply below_drew1 | refine below_set ?_ GE112.out) | exact HB.out)⟩

end Go.Proofs.YtpmieapgbdbabaaDoor.QAll
end

section
/- strings.Builder: copyCheck and WriteString, walked by hand at this program, over the kit's predicate of a builder that the call itself has made. -/
set_option linter.unusedVariables false
set_option linter.unusedSimpArgs false
namespace Go.Proofs.YtpmieapgbdbabaaDoor.QAll
open Go.RowKit Go.Shelf Go.Proofs.YtpmieapgbdbabaaDoorW.PrintWords Go.Proofs.YtpmieapgbdbabaaDoorW.PrintLast Go.Proofs.YtpmieapgbdbabaaDoorW.PrintMore

theorem sizeBuilder : (Tryd.prog.info? 106).map (·.size) = some 2 := by kernel_rfl
theorem liesBuilder : liesAt Tryd.prog Tryd.prog.depth 106 (2 / Tryd.prog.cellsOf 106) 0 106 1 = true := by kernel_rfl
theorem infoByte : (Tryd.prog.info? 5).map (fun i => (i.zero, i.size, i.bytes)) = some (some (.int .u8 0), 1, 1) := by kernel_rfl
set_option maxHeartbeats 1000000 in
set_option maxRecDepth 100000 in
theorem copyCheck_used (b : Nat) (w : World) (h0 : w.cell? ⟨b, 0, none⟩ = some (.pointer (some ⟨b, 0, none⟩))) :
    Calls Tryd.prog 90 #[.pointer (some ⟨b, 0, none⟩)] w fun e w' => e = .returned (.tuple #[]) ∧ w' = w := by
  obtain ⟨j, hj, _⟩ := Option.map_eq_some_iff.1 sizeBuilder
  go_enter Tryd.func90, Tryd.ntmps90
  go_wp2
  rw [Lib.run_neq_ptr_same w _ Tryd.underlying103 hj]
  go_wp2
  go_end0
  exact ⟨rfl, rfl⟩
set_option maxHeartbeats 1000000 in
set_option maxRecDepth 100000 in
theorem copyCheck_fresh (b : Nat) (w : World) (h0 : w.cell? ⟨b, 0, none⟩ = some (.pointer none)) (hsh : w.shape? b = some (106, 2)) (hfz : w.frozen? ⟨b, 0, none⟩ = false) :
    Calls Tryd.prog 90 #[.pointer (some ⟨b, 0, none⟩)] w fun e w' => e = .returned (.tuple #[]) ∧ w' = w.setCell ⟨b, 0, none⟩ (.pointer (some ⟨b, 0, none⟩)) := by
  obtain ⟨j, hj, hjs⟩ := Option.map_eq_some_iff.1 sizeBuilder
  go_enter Tryd.func90, Tryd.ntmps90
  go_wp2
  rw [Lib.run_to_unsafe w ⟨b, 0, none⟩ Tryd.underlying103 Tryd.underlying153 hj (by rw [hjs]; decide) hsh (Nat.zero_lt_succ 1)]
  simp only [Result.andThen]
  rw [Oper.upon_value]
  go_wp2
  rw [run_callFunc_extern Tryd.func104 (by kernel_rfl) (by kernel_rfl) (by kernel_rfl) (e := Extern.AbiNoEscape.same) (by kernel_rfl)]
  rw [Lib.run_noEscape]
  simp only [Result.andThen]
  rw [Oper.upon_value]
  go_wp2
  rw [Lib.run_from_unsafe w ⟨b, 0, none⟩ Tryd.underlying153 Tryd.underlying103 hj hsh liesBuilder]
  simp only [Result.andThen]
  rw [Oper.upon_value]
  go_wp2
  go_end0
  exact ⟨rfl, rfl⟩
theorem copyCheck_any (B b : Nat) (bs : List Value) (w : World) (h : Lib.IsBuilder 106 5 B b bs w) :
    Calls Tryd.prog 90 #[.pointer (some ⟨b, 0, none⟩)] w fun e w' => e = .returned (.tuple #[]) ∧ (Lib.BuilderAt 106 5 B b (.pointer (some ⟨b, 0, none⟩)) bs w' ∧ Below B w w' ∧ ∀ i, i ≠ b → w'.heap[i]? = w.heap[i]?) := by
  rcases h with h | h
  · refine (copyCheck_fresh b w h.cell0 h.shape h.frozen0).mono ?_
    rintro e w' ⟨rfl, rfl⟩
    exact ⟨rfl, h.used _, (Below.refl B w).setCell (p := ⟨b, 0, none⟩) h.1 _, fun i hi => Below.heap_setCell w ⟨b, 0, none⟩ _ i hi⟩
  · refine (copyCheck_used b w h.cell0).mono ?_
    rintro e w' ⟨rfl, rfl⟩
    exact ⟨rfl, h, Below.refl B _, fun _ _ => rfl⟩
set_option maxHeartbeats 1000000 in
set_option maxRecDepth 100000 in
theorem writeString (B b : Nat) (bs : List Value) (s : ByteArray) (w : World) (h : Lib.IsBuilder 106 5 B b bs w) (hlen : bs.length + s.size ≤ 140737488355328) (hBw : B ≤ w.heap.size) :
    Calls Tryd.prog 66 #[.pointer (some ⟨b, 0, none⟩), .string s] w fun e w' => e = .returned (.tuple #[.int .i64 s.size, .nilIface]) ∧ (Lib.BuilderAt 106 5 B b (.pointer (some ⟨b, 0, none⟩)) (bs ++ Lib.strCells s) w' ∧ Below B w w' ∧ ∀ (i : Nat) (t : TypeId) (cs : Array Value), i ≠ b → t ≠ 5 → w.heap[i]? = some (.cells cs t (0, 0)) → w'.heap[i]? = some (.cells cs t (0, 0))) := by
  obtain ⟨i0, hi, hz0, hz1, hz2⟩ := info_parts infoByte
  go_enter Tryd.func66, Tryd.ntmps66
  go_wp2_with (go_at_call 90; refine (copyCheck_any B b bs _ h).mono ?_)
  rintro e w1 ⟨rfl, h1, hb1, hk1⟩
  obtain ⟨hB, v, hbk, hown, hne⟩ := h1
  have c0 : w1.cell? ⟨b, 0, none⟩ = some (.pointer (some ⟨b, 0, none⟩)) := by rw [Lib.cell_of_heap hbk]; rfl
  have c1 : w1.cell? ⟨b, 1, none⟩ = some v := by rw [Lib.cell_of_heap hbk]; rfl
  go_wp2_with (at_builtin; refine Lib.wpList_append_own_string _ rfl _ _ 104 9 rfl B 5 i0 Tryd.underlying104 Tryd.underlying9 hi hz0 hz1 hz2 _ _ _ rfl hown s rfl ?c3 ?c4 ?c5 ?_)
  case c3 => unfold maxLen; omega
  case c4 => omega
  case c5 => have := hb1.size; omega
  intro v' w2 hown' hgrow _
  have hlt : b < w1.heap.size := by
    rcases Nat.lt_or_ge b w1.heap.size with h' | h'
    · exact h'
    · simp [Array.getElem?_eq_none h'] at hbk
  have hb2 : w2.heap[b]? = some (.cells #[.pointer (some ⟨b, 0, none⟩), v] 106 (0, 0)) := by
    rw [hgrow.block b hlt (fun e => hne e.symm)]
    exact hbk
  have d0 : w2.cell? ⟨b, 0, none⟩ = some (.pointer (some ⟨b, 0, none⟩)) := by rw [Lib.cell_of_heap hb2]; rfl
  have d1 : w2.cell? ⟨b, 1, none⟩ = some v := by rw [Lib.cell_of_heap hb2]; rfl
  have f1 : w2.frozen? ⟨b, 1, none⟩ = false := Lib.frozen_of_heap hb2 1
  obtain ⟨ao, n', cap, rfl⟩ : ∃ ao n' cap, v' = .slice ao n' cap := by
    rcases hown'.2 with ⟨hv, _⟩ | ⟨g, cap, cur, hv, _⟩
    · exact ⟨_, _, _, hv⟩
    · exact ⟨_, _, _, hv⟩
  go_wp2
  go_ret2
  refine ⟨rfl, ?_, ?_, ?_⟩
  · exact Lib.BuilderAt.put (T := 106) (e := 5) hB hb2 (bs' := bs ++ Lib.strCells s) (by simpa [Lib.strCells_length] using hown') (by decide)
  · exact (hb1.grown hgrow (by have := hb1.size; omega) (fun k hk => (hown.lt k hk).1)).setCell (p := ⟨b, 1, none⟩) hB _
  · intro i t cs hib ht hi
    have h1i := (hk1 i hib).trans hi
    have hil : i < w1.heap.size := by
      rcases Nat.lt_or_ge i w1.heap.size with h' | h'
      · exact h'
      · simp [Array.getElem?_eq_none h'] at h1i
    have hne2 : some i ≠ v.ownBlock := own_ne hown h1i (Ne.symm ht)
    rw [Below.heap_setCell _ ⟨b, 1, none⟩ _ i hib, hgrow.block i hil hne2]
    exact h1i
end Go.Proofs.YtpmieapgbdbabaaDoor.QAll
end

section
/- What the walks take from the library's shelf, at this program: written by the kit's own tools, the wanted ones picked by a program of this session (wip/pp/shelf.py). -/
namespace Go.Proofs
open Go.Shelf
def Tryd.lays169_ren : Go.Shelf.Ren := ⟨fun | 169 => 67 | n => n, fun | 70 => 103 | 9 => 9 | 0 => 0 | 72 => 106 | 37 => 104 | 127 => 137 | 3 => 3 | 5 => 5 | n => n, fun | n => n⟩
theorem Tryd.lays169 : Go.Proofs.Lays.n169 Tryd.prog Tryd.lays169_ren := {
  mixed := by kernel_rfl
  f169 := Tryd.func67.trans (congrArg some (by kernel_rfl))
  t0 := Tryd.underlying0
  a0 := Tryd.isAgg0
  z0 := Tryd.sizeOf0
  v0 := Tryd.zeroValue0
  t3 := Tryd.underlying3
  a3 := Tryd.isAgg3
  z3 := Tryd.sizeOf3
  v3 := Tryd.zeroValue3
  t9 := Tryd.underlying9
  a9 := Tryd.isAgg9
  z9 := Tryd.sizeOf9
  v9 := Tryd.zeroValue9
  t37 := Tryd.underlying104
  a37 := Tryd.isAgg104
  z37 := Tryd.sizeOf104
  v37 := Tryd.zeroValue104
  t70 := Tryd.underlying103
  a70 := Tryd.isAgg103
  z70 := Tryd.sizeOf103
  v70 := Tryd.zeroValue103
  t72 := Tryd.underlying106
  a72 := Tryd.isAgg106
  z72 := Tryd.sizeOf106
  v72 := Tryd.zeroValue106
  t127 := Tryd.underlying137
  a127 := Tryd.isAgg137
  z127 := Tryd.sizeOf137
  v127 := Tryd.zeroValue137 }
theorem Tryd.Builder_Extra_169 : Builder.Extra Tryd.prog Tryd.lays169_ren := {
  sizeBuilder := by kernel_rfl
  liesBuilder := by kernel_rfl
  t5 := Tryd.underlying5
  a5 := Tryd.isAgg5
  z5 := Tryd.sizeOf5
  v5 := Tryd.zeroValue5
  infoByte := by kernel_rfl
  cellsByte := by kernel_rfl
  sizeByte := by kernel_rfl
  neB5 := by decide }
open Go.RowKit in
theorem Tryd.Builder_String_any (B b : Nat) (l : List UInt8) (w : World) (h : Lib.IsBuilder 106 5 B b (Lib.byteCells l) w) (hBw : B ≤ w.heap.size) :
    Calls Tryd.prog 67 #[.pointer (some ⟨b, 0, none⟩)] w fun e w' => e = .returned (.string ⟨l.toArray⟩) ∧ Below B w w' := Any.Builder_String_any Tryd.lays169 Tryd.Builder_Extra_169 B b l w h hBw
end Go.Proofs
end

section
/- strconv.Itoa of a number from 0 to 99, by the shelf's contract: its digits. -/
set_option linter.unusedVariables false
namespace Go.Proofs.YtpmieapgbdbabaaDoor.QAll
open Go.RowKit Go.Proofs.YtpmieapgbdbabaaDoorW.PrintWords Go.Proofs.YtpmieapgbdbabaaDoorW.PrintLast Go.Proofs.YtpmieapgbdbabaaDoorW.PrintMore
def strconv_Itoa_69.f (a0 : Int) : Option ByteArray := if 0 ≤ a0 ∧ a0 < 100 then some ⟨(Lib.decDigits a0.toNat).toArray⟩ else none
theorem strconv_Itoa_69.calls (a0 : Int) (r : ByteArray) (w : World) (h : strconv_Itoa_69.f a0 = some r) :
    Calls Tryd.prog 69 #[.int .i64 a0] w fun e w' => e = .returned (.string r) ∧ Drawn0 w w' := by
  unfold strconv_Itoa_69.f at h
  split at h
  case isFalse => cases h
  rename_i hs
  obtain rfl := Option.some.inj h
  obtain ⟨n, rfl⟩ := Int.eq_ofNat_of_zero_le hs.1
  refine (Tryd.strconv_Itoa_small n (by omega) w).mono ?_
  rintro e w' ⟨rfl, rfl⟩
  exact ⟨rfl, Drawn0.refl _⟩
end Go.Proofs.YtpmieapgbdbabaaDoor.QAll
end

section
/- Walks, written by a program of this session (wip/pp): a Go function comes to what the Lean function beside it tells. -/
namespace Go.Proofs.YtpmieapgbdbabaaDoor.QAll
open Go.RowKit Go.Proofs.YtpmieapgbdbabaaDoorW.PrintWords Go.Proofs.YtpmieapgbdbabaaDoorW.PrintLast Go.Proofs.YtpmieapgbdbabaaDoorW.PrintMore
set_option linter.unusedVariables false
set_option linter.unusedSimpArgs false

def call_Text.f (a0_0 : ByteArray) (a0_1 : Int) : Option (ByteArray) := (call_Right.f a0_0 a0_1).bind fun t146 => (if t146 = true then (if a0_1 = 0 then (some a0_0) else (if a0_0.size + 1 ≤ 9223372036854775807 then ((strconv_Itoa_69.f a0_1).bind fun t147 => (if (a0_0 ++ (⟨#[45]⟩ : ByteArray)).size + t147.size ≤ 9223372036854775807 then (some ((a0_0 ++ (⟨#[45]⟩ : ByteArray)) ++ t147)) else (none))) else (none))) else (some (⟨#[]⟩ : ByteArray)))
set_option maxHeartbeats 8000000 in
set_option maxRecDepth 100000 in
theorem call_Text.calls (a0_0 : ByteArray) (a0_1 : Int) (r : ByteArray) (w : World) (h : call_Text.f a0_0 a0_1 = some r) :
  Calls Tryd.prog 41 #[.agg #[.string a0_0, .int .i64 a0_1]] w fun e w' => e = .returned (.string r) ∧ Below w.heap.size w w' := by
 have hu23 := Tryd.underlying23
 have HB := Aside0.mk (Below.refl w.heap.size w)
 have H : ((call_Right.f a0_0 a0_1).bind fun t146 => (if t146 = true then (if a0_1 = 0 then (some a0_0) else (if a0_0.size + 1 ≤ 9223372036854775807 then ((strconv_Itoa_69.f a0_1).bind fun t147 => (if (a0_0 ++ (⟨#[45]⟩ : ByteArray)).size + t147.size ≤ 9223372036854775807 then (some ((a0_0 ++ (⟨#[45]⟩ : ByteArray)) ++ t147)) else (none))) else (none))) else (some (⟨#[]⟩ : ByteArray)))) = some r := h
 clear h
 replace H := Option.bind_eq_some_iff.mp H
 obtain ⟨t146, A20, H⟩ := H
 replace H : (if t146 = true then (if a0_1 = 0 then (some a0_0) else (if a0_0.size + 1 ≤ 9223372036854775807 then ((strconv_Itoa_69.f a0_1).bind fun t147 => (if (a0_0 ++ (⟨#[45]⟩ : ByteArray)).size + t147.size ≤ 9223372036854775807 then (some ((a0_0 ++ (⟨#[45]⟩ : ByteArray)) ++ t147)) else (none))) else (none))) else (some (⟨#[]⟩ : ByteArray))) = some r := H
 have A2 := Aside0.mk A20
 clear A20
 by_cases c3 : t146 = true
 ·subst c3
  have H1 : (if a0_1 = 0 then (some a0_0) else (if a0_0.size + 1 ≤ 9223372036854775807 then ((strconv_Itoa_69.f a0_1).bind fun t147 => (if (a0_0 ++ (⟨#[45]⟩ : ByteArray)).size + t147.size ≤ 9223372036854775807 then (some ((a0_0 ++ (⟨#[45]⟩ : ByteArray)) ++ t147)) else (none))) else (none))) = some r := by rw [if_pos rfl] at H; exact H
  clear H
  have H := H1
  clear H1
  by_cases c4 : a0_1 = 0
  ·rw [if_pos c4] at H
   have c4b0 : (a0_1 == 0) = true := beq_iff_eq.mpr c4
   have c4b1 : (a0_1 != 0) = false := bne_eq_false_iff_eq.mpr c4
   clear c4
   obtain rfl := Option.some.inj H
   go_enter Tryd.func41, Tryd.ntmps41
   go_wp2_with (first | ((with_reducible refine gate_dst (N := 1) rfl ?_); refine box_event ?hg (N := 1) ?hd (cs := #[.string a0_0, .int .i64 a0_1]) (t := 23) ?hr ?_; (case hd => rfl); (case hg => rfl); (case hr => first | (go_simp; done) | (go_simp; rfl)); intro gb145 hg w5 hbox hb; have n0_ := Aside0.mk (below_step (by repeat (first | (with_reducible first | exact HB.out | apply below_alloc | apply pw_below_drewN | apply below_drew1) | exact HB.out)) hb); have n1_ := Aside0.mk (hbox); have n2_ := Aside0.mk ((by rw [hg]; exact (below_size (by repeat (first | (with_reducible first | exact HB.out | apply below_alloc | apply pw_below_drewN | apply below_drew1) | exact HB.out))) : w.heap.size ≤ gb145)); have n3_ := Aside0.mk ((by rw [hg]; exact (below_size (by repeat (first | (with_reducible first | exact HB.out | apply below_alloc | apply pw_below_drewN | apply below_drew1) | exact HB.out))) : w.heap.size ≤ gb145)); clear HB; have HB := n0_; have BK145 := n1_; have GW145 := n2_; have GE145 := n3_; clear n0_ n1_ n2_ n3_; clear hb hbox hg; have hcz6_0 : w5.cell? ⟨gb145, 0, none⟩ = some (.string a0_0) := (blk_cell BK145.out 0).trans rfl; have hcz6_1 : w5.cell? ⟨gb145, 1, none⟩ = some (.int .i64 a0_1) := (blk_cell BK145.out 1).trans rfl; have hfz6_0 := blk_frozen BK145.out 0; have hfz6_1 := blk_frozen BK145.out 1) | (go_at_call 40; (with_reducible refine (call_Right.calls a0_0 a0_1 true _ A2.out).mono ?_); rintro e w7 ⟨rfl, hb⟩; have n0_ := Aside0.mk (blk_below (g := gb145) (o := .cells #[.string a0_0, .int .i64 a0_1] 23 (0, 0)) (by (with_reducible repeat (first | refine blk_drewN ?_ _ | refine blk_drew ?_ | refine blk_alloc ?_ _)); exact BK145.out) hb); have n1_ := Aside0.mk (below_step (by repeat (first | (with_reducible first | exact HB.out | apply below_alloc | apply pw_below_drewN | apply below_drew1 | refine below_set ?_ GE145.out) | exact HB.out)) hb); clear BK145; clear HB; have BK145 := n0_; have HB := n1_; clear n0_ n1_; (try clear hb); (try clear hb2); (try clear hk); (try clear hi); have hcz8_0 : w7.cell? ⟨gb145, 0, none⟩ = some (.string a0_0) := (blk_cell BK145.out 0).trans rfl; have hcz8_1 : w7.cell? ⟨gb145, 1, none⟩ = some (.int .i64 a0_1) := (blk_cell BK145.out 1).trans rfl; have hfz8_0 := blk_frozen BK145.out 0; have hfz8_1 := blk_frozen BK145.out 1))
   repeat (go_quiet (first | ((with_reducible refine gate_dst (N := 1) rfl ?_); refine box_event ?hg (N := 1) ?hd (cs := #[.string a0_0, .int .i64 a0_1]) (t := 23) ?hr ?_; (case hd => rfl); (case hg => rfl); (case hr => first | (go_simp; done) | (go_simp; rfl)); intro gb145 hg w5 hbox hb; have n0_ := Aside0.mk (below_step (by repeat (first | (with_reducible first | exact HB.out | apply below_alloc | apply pw_below_drewN | apply below_drew1) | exact HB.out)) hb); have n1_ := Aside0.mk (hbox); have n2_ := Aside0.mk ((by rw [hg]; exact (below_size (by repeat (first | (with_reducible first | exact HB.out | apply below_alloc | apply pw_below_drewN | apply below_drew1) | exact HB.out))) : w.heap.size ≤ gb145)); have n3_ := Aside0.mk ((by rw [hg]; exact (below_size (by repeat (first | (with_reducible first | exact HB.out | apply below_alloc | apply pw_below_drewN | apply below_drew1) | exact HB.out))) : w.heap.size ≤ gb145)); clear HB; have HB := n0_; have BK145 := n1_; have GW145 := n2_; have GE145 := n3_; clear n0_ n1_ n2_ n3_; clear hb hbox hg; have hcz6_0 : w5.cell? ⟨gb145, 0, none⟩ = some (.string a0_0) := (blk_cell BK145.out 0).trans rfl; have hcz6_1 : w5.cell? ⟨gb145, 1, none⟩ = some (.int .i64 a0_1) := (blk_cell BK145.out 1).trans rfl; have hfz6_0 := blk_frozen BK145.out 0; have hfz6_1 := blk_frozen BK145.out 1) | (go_at_call 40; (with_reducible refine (call_Right.calls a0_0 a0_1 true _ A2.out).mono ?_); rintro e w7 ⟨rfl, hb⟩; have n0_ := Aside0.mk (blk_below (g := gb145) (o := .cells #[.string a0_0, .int .i64 a0_1] 23 (0, 0)) (by (with_reducible repeat (first | refine blk_drewN ?_ _ | refine blk_drew ?_ | refine blk_alloc ?_ _)); exact BK145.out) hb); have n1_ := Aside0.mk (below_step (by repeat (first | (with_reducible first | exact HB.out | apply below_alloc | apply pw_below_drewN | apply below_drew1 | refine below_set ?_ GE145.out) | exact HB.out)) hb); clear BK145; clear HB; have BK145 := n0_; have HB := n1_; clear n0_ n1_; (try clear hb); (try clear hb2); (try clear hk); (try clear hi); have hcz8_0 : w7.cell? ⟨gb145, 0, none⟩ = some (.string a0_0) := (blk_cell BK145.out 0).trans rfl; have hcz8_1 : w7.cell? ⟨gb145, 1, none⟩ = some (.int .i64 a0_1) := (blk_cell BK145.out 1).trans rfl; have hfz8_0 := blk_frozen BK145.out 0; have hfz8_1 := blk_frozen BK145.out 1)); try go_wp2_with (first | ((with_reducible refine gate_dst (N := 1) rfl ?_); refine box_event ?hg (N := 1) ?hd (cs := #[.string a0_0, .int .i64 a0_1]) (t := 23) ?hr ?_; (case hd => rfl); (case hg => rfl); (case hr => first | (go_simp; done) | (go_simp; rfl)); intro gb145 hg w5 hbox hb; have n0_ := Aside0.mk (below_step (by repeat (first | (with_reducible first | exact HB.out | apply below_alloc | apply pw_below_drewN | apply below_drew1) | exact HB.out)) hb); have n1_ := Aside0.mk (hbox); have n2_ := Aside0.mk ((by rw [hg]; exact (below_size (by repeat (first | (with_reducible first | exact HB.out | apply below_alloc | apply pw_below_drewN | apply below_drew1) | exact HB.out))) : w.heap.size ≤ gb145)); have n3_ := Aside0.mk ((by rw [hg]; exact (below_size (by repeat (first | (with_reducible first | exact HB.out | apply below_alloc | apply pw_below_drewN | apply below_drew1) | exact HB.out))) : w.heap.size ≤ gb145)); clear HB; have HB := n0_; have BK145 := n1_; have GW145 := n2_; have GE145 := n3_; clear n0_ n1_ n2_ n3_; clear hb hbox hg; have hcz6_0 : w5.cell? ⟨gb145, 0, none⟩ = some (.string a0_0) := (blk_cell BK145.out 0).trans rfl; have hcz6_1 : w5.cell? ⟨gb145, 1, none⟩ = some (.int .i64 a0_1) := (blk_cell BK145.out 1).trans rfl; have hfz6_0 := blk_frozen BK145.out 0; have hfz6_1 := blk_frozen BK145.out 1) | (go_at_call 40; (with_reducible refine (call_Right.calls a0_0 a0_1 true _ A2.out).mono ?_); rintro e w7 ⟨rfl, hb⟩; have n0_ := Aside0.mk (blk_below (g := gb145) (o := .cells #[.string a0_0, .int .i64 a0_1] 23 (0, 0)) (by (with_reducible repeat (first | refine blk_drewN ?_ _ | refine blk_drew ?_ | refine blk_alloc ?_ _)); exact BK145.out) hb); have n1_ := Aside0.mk (below_step (by repeat (first | (with_reducible first | exact HB.out | apply below_alloc | apply pw_below_drewN | apply below_drew1 | refine below_set ?_ GE145.out) | exact HB.out)) hb); clear BK145; clear HB; have BK145 := n0_; have HB := n1_; clear n0_ n1_; (try clear hb); (try clear hb2); (try clear hk); (try clear hi); have hcz8_0 : w7.cell? ⟨gb145, 0, none⟩ = some (.string a0_0) := (blk_cell BK145.out 0).trans rfl; have hcz8_1 : w7.cell? ⟨gb145, 1, none⟩ = some (.int .i64 a0_1) := (blk_cell BK145.out 1).trans rfl; have hfz8_0 := blk_frozen BK145.out 0; have hfz8_1 := blk_frozen BK145.out 1)))
   go_ret
   exact ⟨by first | rfl | (simp [errW_none, errW_some] <;> rfl) | (simp [*, errW_none, errW_some] <;> rfl), by repeat (first | (with_reducible first | exact HB.out | apply below_alloc | apply pw_below_drewN | apply below_drew1 | refine below_set ?_ GE145.out) | exact HB.out)⟩
  ·rw [if_neg c4] at H
   have c4b0 : (a0_1 == 0) = false := beq_eq_false_iff_ne.mpr c4
   have c4b1 : (a0_1 != 0) = true := bne_iff_ne.mpr c4
   by_cases c9 : a0_0.size + 1 ≤ 9223372036854775807
   ·rw [if_pos c9] at H
    have c9b0 := eq_true c9
    have c9b1 : decide (a0_0.size + 1 ≤ 9223372036854775807) = true := decide_eq_true c9
    try have c9b2 : (9223372036854775807 < a0_0.size + 1) = False := eq_false (Nat.not_lt.2 c9)
    replace H := Option.bind_eq_some_iff.mp H
    obtain ⟨t147, A100, H⟩ := H
    replace H : (if (a0_0 ++ (⟨#[45]⟩ : ByteArray)).size + t147.size ≤ 9223372036854775807 then (some ((a0_0 ++ (⟨#[45]⟩ : ByteArray)) ++ t147)) else (none)) = some r := H
    have A10 := Aside0.mk A100
    clear A100
    by_cases c11 : (a0_0 ++ (⟨#[45]⟩ : ByteArray)).size + t147.size ≤ 9223372036854775807
    ·rw [if_pos c11] at H
     have c11b0 := eq_true c11
     have c11b1 : decide ((a0_0 ++ (⟨#[45]⟩ : ByteArray)).size + t147.size ≤ 9223372036854775807) = true := decide_eq_true c11
     try have c11b2 : (9223372036854775807 < (a0_0 ++ (⟨#[45]⟩ : ByteArray)).size + t147.size) = False := eq_false (Nat.not_lt.2 c11)
     obtain rfl := Option.some.inj H
     go_enter Tryd.func41, Tryd.ntmps41
     go_wp2_with (first | ((with_reducible refine gate_dst (N := 1) rfl ?_); refine box_event ?hg (N := 1) ?hd (cs := #[.string a0_0, .int .i64 a0_1]) (t := 23) ?hr ?_; (case hd => rfl); (case hg => rfl); (case hr => first | (go_simp; done) | (go_simp; rfl)); intro gb145 hg w12 hbox hb; have n0_ := Aside0.mk (below_step (by repeat (first | (with_reducible first | exact HB.out | apply below_alloc | apply pw_below_drewN | apply below_drew1) | exact HB.out)) hb); have n1_ := Aside0.mk (hbox); have n2_ := Aside0.mk ((by rw [hg]; exact (below_size (by repeat (first | (with_reducible first | exact HB.out | apply below_alloc | apply pw_below_drewN | apply below_drew1) | exact HB.out))) : w.heap.size ≤ gb145)); have n3_ := Aside0.mk ((by rw [hg]; exact (below_size (by repeat (first | (with_reducible first | exact HB.out | apply below_alloc | apply pw_below_drewN | apply below_drew1) | exact HB.out))) : w.heap.size ≤ gb145)); clear HB; have HB := n0_; have BK145 := n1_; have GW145 := n2_; have GE145 := n3_; clear n0_ n1_ n2_ n3_; clear hb hbox hg; have hcz13_0 : w12.cell? ⟨gb145, 0, none⟩ = some (.string a0_0) := (blk_cell BK145.out 0).trans rfl; have hcz13_1 : w12.cell? ⟨gb145, 1, none⟩ = some (.int .i64 a0_1) := (blk_cell BK145.out 1).trans rfl; have hfz13_0 := blk_frozen BK145.out 0; have hfz13_1 := blk_frozen BK145.out 1) | (go_at_call 40; (with_reducible refine (call_Right.calls a0_0 a0_1 true _ A2.out).mono ?_); rintro e w14 ⟨rfl, hb⟩; have n0_ := Aside0.mk (blk_below (g := gb145) (o := .cells #[.string a0_0, .int .i64 a0_1] 23 (0, 0)) (by (with_reducible repeat (first | refine blk_drewN ?_ _ | refine blk_drew ?_ | refine blk_alloc ?_ _)); exact BK145.out) hb); have n1_ := Aside0.mk (below_step (by repeat (first | (with_reducible first | exact HB.out | apply below_alloc | apply pw_below_drewN | apply below_drew1 | refine below_set ?_ GE145.out) | exact HB.out)) hb); clear BK145; clear HB; have BK145 := n0_; have HB := n1_; clear n0_ n1_; (try clear hb); (try clear hb2); (try clear hk); (try clear hi); have hcz15_0 : w14.cell? ⟨gb145, 0, none⟩ = some (.string a0_0) := (blk_cell BK145.out 0).trans rfl; have hcz15_1 : w14.cell? ⟨gb145, 1, none⟩ = some (.int .i64 a0_1) := (blk_cell BK145.out 1).trans rfl; have hfz15_0 := blk_frozen BK145.out 0; have hfz15_1 := blk_frozen BK145.out 1) | (go_at_call 69; (with_reducible refine (strconv_Itoa_69.calls a0_1 t147 _ A10.out).mono ?_); rintro e w' ⟨rfl, ⟨nd, rfl⟩⟩; (try first | exact ⟨rfl, _, World.drewN_drewN _ _ _⟩ | exact ⟨rfl, _, Eq.trans (World.drewN_drewN _ _ _) (congrArg (World.drewN _) (Nat.add_assoc _ _ _))⟩)))
     repeat (go_quiet (first | ((with_reducible refine gate_dst (N := 1) rfl ?_); refine box_event ?hg (N := 1) ?hd (cs := #[.string a0_0, .int .i64 a0_1]) (t := 23) ?hr ?_; (case hd => rfl); (case hg => rfl); (case hr => first | (go_simp; done) | (go_simp; rfl)); intro gb145 hg w12 hbox hb; have n0_ := Aside0.mk (below_step (by repeat (first | (with_reducible first | exact HB.out | apply below_alloc | apply pw_below_drewN | apply below_drew1) | exact HB.out)) hb); have n1_ := Aside0.mk (hbox); have n2_ := Aside0.mk ((by rw [hg]; exact (below_size (by repeat (first | (with_reducible first | exact HB.out | apply below_alloc | apply pw_below_drewN | apply below_drew1) | exact HB.out))) : w.heap.size ≤ gb145)); have n3_ := Aside0.mk ((by rw [hg]; exact (below_size (by repeat (first | (with_reducible first | exact HB.out | apply below_alloc | apply pw_below_drewN | apply below_drew1) | exact HB.out))) : w.heap.size ≤ gb145)); clear HB; have HB := n0_; have BK145 := n1_; have GW145 := n2_; have GE145 := n3_; clear n0_ n1_ n2_ n3_; clear hb hbox hg; have hcz13_0 : w12.cell? ⟨gb145, 0, none⟩ = some (.string a0_0) := (blk_cell BK145.out 0).trans rfl; have hcz13_1 : w12.cell? ⟨gb145, 1, none⟩ = some (.int .i64 a0_1) := (blk_cell BK145.out 1).trans rfl; have hfz13_0 := blk_frozen BK145.out 0; have hfz13_1 := blk_frozen BK145.out 1) | (go_at_call 40; (with_reducible refine (call_Right.calls a0_0 a0_1 true _ A2.out).mono ?_); rintro e w14 ⟨rfl, hb⟩; have n0_ := Aside0.mk (blk_below (g := gb145) (o := .cells #[.string a0_0, .int .i64 a0_1] 23 (0, 0)) (by (with_reducible repeat (first | refine blk_drewN ?_ _ | refine blk_drew ?_ | refine blk_alloc ?_ _)); exact BK145.out) hb); have n1_ := Aside0.mk (below_step (by repeat (first | (with_reducible first | exact HB.out | apply below_alloc | apply pw_below_drewN | apply below_drew1 | refine below_set ?_ GE145.out) | exact HB.out)) hb); clear BK145; clear HB; have BK145 := n0_; have HB := n1_; clear n0_ n1_; (try clear hb); (try clear hb2); (try clear hk); (try clear hi); have hcz15_0 : w14.cell? ⟨gb145, 0, none⟩ = some (.string a0_0) := (blk_cell BK145.out 0).trans rfl; have hcz15_1 : w14.cell? ⟨gb145, 1, none⟩ = some (.int .i64 a0_1) := (blk_cell BK145.out 1).trans rfl; have hfz15_0 := blk_frozen BK145.out 0; have hfz15_1 := blk_frozen BK145.out 1) | (go_at_call 69; (with_reducible refine (strconv_Itoa_69.calls a0_1 t147 _ A10.out).mono ?_); rintro e w' ⟨rfl, ⟨nd, rfl⟩⟩; (try first | exact ⟨rfl, _, World.drewN_drewN _ _ _⟩ | exact ⟨rfl, _, Eq.trans (World.drewN_drewN _ _ _) (congrArg (World.drewN _) (Nat.add_assoc _ _ _))⟩))); try go_wp2_with (first | ((with_reducible refine gate_dst (N := 1) rfl ?_); refine box_event ?hg (N := 1) ?hd (cs := #[.string a0_0, .int .i64 a0_1]) (t := 23) ?hr ?_; (case hd => rfl); (case hg => rfl); (case hr => first | (go_simp; done) | (go_simp; rfl)); intro gb145 hg w12 hbox hb; have n0_ := Aside0.mk (below_step (by repeat (first | (with_reducible first | exact HB.out | apply below_alloc | apply pw_below_drewN | apply below_drew1) | exact HB.out)) hb); have n1_ := Aside0.mk (hbox); have n2_ := Aside0.mk ((by rw [hg]; exact (below_size (by repeat (first | (with_reducible first | exact HB.out | apply below_alloc | apply pw_below_drewN | apply below_drew1) | exact HB.out))) : w.heap.size ≤ gb145)); have n3_ := Aside0.mk ((by rw [hg]; exact (below_size (by repeat (first | (with_reducible first | exact HB.out | apply below_alloc | apply pw_below_drewN | apply below_drew1) | exact HB.out))) : w.heap.size ≤ gb145)); clear HB; have HB := n0_; have BK145 := n1_; have GW145 := n2_; have GE145 := n3_; clear n0_ n1_ n2_ n3_; clear hb hbox hg; have hcz13_0 : w12.cell? ⟨gb145, 0, none⟩ = some (.string a0_0) := (blk_cell BK145.out 0).trans rfl; have hcz13_1 : w12.cell? ⟨gb145, 1, none⟩ = some (.int .i64 a0_1) := (blk_cell BK145.out 1).trans rfl; have hfz13_0 := blk_frozen BK145.out 0; have hfz13_1 := blk_frozen BK145.out 1) | (go_at_call 40; (with_reducible refine (call_Right.calls a0_0 a0_1 true _ A2.out).mono ?_); rintro e w14 ⟨rfl, hb⟩; have n0_ := Aside0.mk (blk_below (g := gb145) (o := .cells #[.string a0_0, .int .i64 a0_1] 23 (0, 0)) (by (with_reducible repeat (first | refine blk_drewN ?_ _ | refine blk_drew ?_ | refine blk_alloc ?_ _)); exact BK145.out) hb); have n1_ := Aside0.mk (below_step (by repeat (first | (with_reducible first | exact HB.out | apply below_alloc | apply pw_below_drewN | apply below_drew1 | refine below_set ?_ GE145.out) | exact HB.out)) hb); clear BK145; clear HB; have BK145 := n0_; have HB := n1_; clear n0_ n1_; (try clear hb); (try clear hb2); (try clear hk); (try clear hi); have hcz15_0 : w14.cell? ⟨gb145, 0, none⟩ = some (.string a0_0) := (blk_cell BK145.out 0).trans rfl; have hcz15_1 : w14.cell? ⟨gb145, 1, none⟩ = some (.int .i64 a0_1) := (blk_cell BK145.out 1).trans rfl; have hfz15_0 := blk_frozen BK145.out 0; have hfz15_1 := blk_frozen BK145.out 1) | (go_at_call 69; (with_reducible refine (strconv_Itoa_69.calls a0_1 t147 _ A10.out).mono ?_); rintro e w' ⟨rfl, ⟨nd, rfl⟩⟩; (try first | exact ⟨rfl, _, World.drewN_drewN _ _ _⟩ | exact ⟨rfl, _, Eq.trans (World.drewN_drewN _ _ _) (congrArg (World.drewN _) (Nat.add_assoc _ _ _))⟩))))
     go_ret
     exact ⟨by first | rfl | (simp [errW_none, errW_some] <;> rfl) | (simp [*, errW_none, errW_some] <;> rfl), by repeat (first | (with_reducible first | exact HB.out | apply below_alloc | apply pw_below_drewN | apply below_drew1 | refine below_set ?_ GE145.out) | exact HB.out)⟩
    ·rw [if_neg c11] at H
     exact absurd H (by simp)
   ·rw [if_neg c9] at H
    exact absurd H (by simp)
 ·replace c3 := Bool.eq_false_iff.mpr c3
  subst c3
  have H1 : (some (⟨#[]⟩ : ByteArray)) = some r := by rw [if_neg (show ¬ (false = true) by decide)] at H; exact H
  clear H
  have H := H1
  clear H1
  obtain rfl := Option.some.inj H
  go_enter Tryd.func41, Tryd.ntmps41
  go_wp2_with (first | ((with_reducible refine gate_dst (N := 1) rfl ?_); refine box_event ?hg (N := 1) ?hd (cs := #[.string a0_0, .int .i64 a0_1]) (t := 23) ?hr ?_; (case hd => rfl); (case hg => rfl); (case hr => first | (go_simp; done) | (go_simp; rfl)); intro gb145 hg w16 hbox hb; have n0_ := Aside0.mk (below_step (by repeat (first | (with_reducible first | exact HB.out | apply below_alloc | apply pw_below_drewN | apply below_drew1) | exact HB.out)) hb); have n1_ := Aside0.mk (hbox); have n2_ := Aside0.mk ((by rw [hg]; exact (below_size (by repeat (first | (with_reducible first | exact HB.out | apply below_alloc | apply pw_below_drewN | apply below_drew1) | exact HB.out))) : w.heap.size ≤ gb145)); have n3_ := Aside0.mk ((by rw [hg]; exact (below_size (by repeat (first | (with_reducible first | exact HB.out | apply below_alloc | apply pw_below_drewN | apply below_drew1) | exact HB.out))) : w.heap.size ≤ gb145)); clear HB; have HB := n0_; have BK145 := n1_; have GW145 := n2_; have GE145 := n3_; clear n0_ n1_ n2_ n3_; clear hb hbox hg; have hcz17_0 : w16.cell? ⟨gb145, 0, none⟩ = some (.string a0_0) := (blk_cell BK145.out 0).trans rfl; have hcz17_1 : w16.cell? ⟨gb145, 1, none⟩ = some (.int .i64 a0_1) := (blk_cell BK145.out 1).trans rfl; have hfz17_0 := blk_frozen BK145.out 0; have hfz17_1 := blk_frozen BK145.out 1) | (go_at_call 40; (with_reducible refine (call_Right.calls a0_0 a0_1 false _ A2.out).mono ?_); rintro e w18 ⟨rfl, hb⟩; have n0_ := Aside0.mk (blk_below (g := gb145) (o := .cells #[.string a0_0, .int .i64 a0_1] 23 (0, 0)) (by (with_reducible repeat (first | refine blk_drewN ?_ _ | refine blk_drew ?_ | refine blk_alloc ?_ _)); exact BK145.out) hb); have n1_ := Aside0.mk (below_step (by repeat (first | (with_reducible first | exact HB.out | apply below_alloc | apply pw_below_drewN | apply below_drew1 | refine below_set ?_ GE145.out) | exact HB.out)) hb); clear BK145; clear HB; have BK145 := n0_; have HB := n1_; clear n0_ n1_; (try clear hb); (try clear hb2); (try clear hk); (try clear hi)))
  repeat (go_quiet (first | ((with_reducible refine gate_dst (N := 1) rfl ?_); refine box_event ?hg (N := 1) ?hd (cs := #[.string a0_0, .int .i64 a0_1]) (t := 23) ?hr ?_; (case hd => rfl); (case hg => rfl); (case hr => first | (go_simp; done) | (go_simp; rfl)); intro gb145 hg w16 hbox hb; have n0_ := Aside0.mk (below_step (by repeat (first | (with_reducible first | exact HB.out | apply below_alloc | apply pw_below_drewN | apply below_drew1) | exact HB.out)) hb); have n1_ := Aside0.mk (hbox); have n2_ := Aside0.mk ((by rw [hg]; exact (below_size (by repeat (first | (with_reducible first | exact HB.out | apply below_alloc | apply pw_below_drewN | apply below_drew1) | exact HB.out))) : w.heap.size ≤ gb145)); have n3_ := Aside0.mk ((by rw [hg]; exact (below_size (by repeat (first | (with_reducible first | exact HB.out | apply below_alloc | apply pw_below_drewN | apply below_drew1) | exact HB.out))) : w.heap.size ≤ gb145)); clear HB; have HB := n0_; have BK145 := n1_; have GW145 := n2_; have GE145 := n3_; clear n0_ n1_ n2_ n3_; clear hb hbox hg; have hcz17_0 : w16.cell? ⟨gb145, 0, none⟩ = some (.string a0_0) := (blk_cell BK145.out 0).trans rfl; have hcz17_1 : w16.cell? ⟨gb145, 1, none⟩ = some (.int .i64 a0_1) := (blk_cell BK145.out 1).trans rfl; have hfz17_0 := blk_frozen BK145.out 0; have hfz17_1 := blk_frozen BK145.out 1) | (go_at_call 40; (with_reducible refine (call_Right.calls a0_0 a0_1 false _ A2.out).mono ?_); rintro e w18 ⟨rfl, hb⟩; have n0_ := Aside0.mk (blk_below (g := gb145) (o := .cells #[.string a0_0, .int .i64 a0_1] 23 (0, 0)) (by (with_reducible repeat (first | refine blk_drewN ?_ _ | refine blk_drew ?_ | refine blk_alloc ?_ _)); exact BK145.out) hb); have n1_ := Aside0.mk (below_step (by repeat (first | (with_reducible first | exact HB.out | apply below_alloc | apply pw_below_drewN | apply below_drew1 | refine below_set ?_ GE145.out) | exact HB.out)) hb); clear BK145; clear HB; have BK145 := n0_; have HB := n1_; clear n0_ n1_; (try clear hb); (try clear hb2); (try clear hk); (try clear hi))); try go_wp2_with (first | ((with_reducible refine gate_dst (N := 1) rfl ?_); refine box_event ?hg (N := 1) ?hd (cs := #[.string a0_0, .int .i64 a0_1]) (t := 23) ?hr ?_; (case hd => rfl); (case hg => rfl); (case hr => first | (go_simp; done) | (go_simp; rfl)); intro gb145 hg w16 hbox hb; have n0_ := Aside0.mk (below_step (by repeat (first | (with_reducible first | exact HB.out | apply below_alloc | apply pw_below_drewN | apply below_drew1) | exact HB.out)) hb); have n1_ := Aside0.mk (hbox); have n2_ := Aside0.mk ((by rw [hg]; exact (below_size (by repeat (first | (with_reducible first | exact HB.out | apply below_alloc | apply pw_below_drewN | apply below_drew1) | exact HB.out))) : w.heap.size ≤ gb145)); have n3_ := Aside0.mk ((by rw [hg]; exact (below_size (by repeat (first | (with_reducible first | exact HB.out | apply below_alloc | apply pw_below_drewN | apply below_drew1) | exact HB.out))) : w.heap.size ≤ gb145)); clear HB; have HB := n0_; have BK145 := n1_; have GW145 := n2_; have GE145 := n3_; clear n0_ n1_ n2_ n3_; clear hb hbox hg; have hcz17_0 : w16.cell? ⟨gb145, 0, none⟩ = some (.string a0_0) := (blk_cell BK145.out 0).trans rfl; have hcz17_1 : w16.cell? ⟨gb145, 1, none⟩ = some (.int .i64 a0_1) := (blk_cell BK145.out 1).trans rfl; have hfz17_0 := blk_frozen BK145.out 0; have hfz17_1 := blk_frozen BK145.out 1) | (go_at_call 40; (with_reducible refine (call_Right.calls a0_0 a0_1 false _ A2.out).mono ?_); rintro e w18 ⟨rfl, hb⟩; have n0_ := Aside0.mk (blk_below (g := gb145) (o := .cells #[.string a0_0, .int .i64 a0_1] 23 (0, 0)) (by (with_reducible repeat (first | refine blk_drewN ?_ _ | refine blk_drew ?_ | refine blk_alloc ?_ _)); exact BK145.out) hb); have n1_ := Aside0.mk (below_step (by repeat (first | (with_reducible first | exact HB.out | apply below_alloc | apply pw_below_drewN | apply below_drew1 | refine below_set ?_ GE145.out) | exact HB.out)) hb); clear BK145; clear HB; have BK145 := n0_; have HB := n1_; clear n0_ n1_; (try clear hb); (try clear hb2); (try clear hk); (try clear hi))))
  go_ret
  exact ⟨by first | rfl | (simp [errW_none, errW_some] <;> rfl) | (simp [*, errW_none, errW_some] <;> rfl), by repeat (first | (with_reducible first | exact HB.out | apply below_alloc | apply pw_below_drewN | apply below_drew1 | refine below_set ?_ GE145.out) | exact HB.out)⟩

end Go.Proofs.YtpmieapgbdbabaaDoor.QAll
end

section
/- path.Text, walked by hand: the word of a right path. -/
set_option linter.unusedVariables false
set_option linter.unusedSimpArgs false
namespace Go.Proofs.YtpmieapgbdbabaaDoor.QAll
open Go.RowKit Go.Shelf Go.Proofs.YtpmieapgbdbabaaDoorW.PrintWords Go.Proofs.YtpmieapgbdbabaaDoorW.PrintLast Go.Proofs.YtpmieapgbdbabaaDoorW.PrintMore

/-- A call's word, if it is right. -/
def wordS (s : ByteArray) (n : Int) : ByteArray := (call_Text.f s n).getD ⟨#[]⟩
theorem decDigits_short (n : Nat) (h : n < 100) : (Lib.decDigits n).length ≤ 2 := by
  by_cases h1 : n < 10
  · rw [Lib.decDigits_one h1]; simp
  · rw [Lib.decDigits_two h1 h]; simp
theorem word_f (s : ByteArray) (n : Int) (hr : rightB s n = true) : call_Text.f s n = some (wordS s n) ∧ (wordS s n).size ≤ 9 := by
  have hl : 1 ≤ s.size ∧ s.size ≤ 6 ∧ 0 ≤ n ∧ n ≤ 15 := by
    unfold rightB at hr
    simpa using (by simpa using hr : _ ∧ _).2
  have h1 : ∃ t, call_Text.f s n = some t ∧ t.size ≤ 9 := by
    unfold call_Text.f call_Right.f
    rw [if_pos (by omega), Option.bind_some, if_pos hr]
    by_cases h0 : n = 0
    · rw [if_pos h0]; exact ⟨_, rfl, by omega⟩
    · have hd : ((⟨(Lib.decDigits n.toNat).toArray⟩ : ByteArray)).size ≤ 2 := by
        have := decDigits_short n.toNat (by omega)
        show (List.toArray _).size ≤ 2
        simpa using this
      have h45 : (⟨#[45]⟩ : ByteArray).size = 1 := rfl
      rw [if_neg h0, if_pos (by omega)]
      unfold strconv_Itoa_69.f
      rw [if_pos (by omega), Option.bind_some, if_pos (by simp only [ByteArray.size_append]; omega)]
      exact ⟨_, rfl, by simp only [ByteArray.size_append]; omega⟩
  obtain ⟨t, h2, h3⟩ := h1
  unfold wordS
  rw [h2]
  exact ⟨rfl, h3⟩
/-- The digipeaters' words, each behind a comma; a star behind the last one that has sent it. -/
def digT : List S93 → List UInt8
  | [] => []
  | d :: r => 44 :: (wordS d.f0.f0 d.f0.f1).data.toList ++ ((if d.f1 = true ∧ (match r with | [] => true | e :: _ => !e.f1) = true then [42] else []) ++ digT r)
def pathT (a0 : ByteArray) (n0 : Int) (a1 : ByteArray) (n1 : Int) (l : List S93) : List UInt8 := (wordS a1 n1).data.toList ++ 62 :: ((wordS a0 n0).data.toList ++ digT l)
def path_Text.f (a0_0 : ByteArray) (a0_1 : Int) (a0_2 : ByteArray) (a0_3 : Int) (a0_4 : Bool) (a0_5 : Bool) (l0_6 : List S93) : Option ByteArray :=
  if sizesOk a0_0 a0_2 l0_6 = true then some (if pathB a0_0 a0_1 a0_2 a0_3 l0_6 = true then ⟨(pathT a0_0 a0_1 a0_2 a0_3 l0_6).toArray⟩ else ⟨#[]⟩) else none
theorem below_two {B B' : Nat} {w W w' : World} (h1 : Below B w W) (h : B ≤ B') (h2 : Below B' W w') : Below B w w' :=
  ⟨h2.os.trans h1.os, h2.tape.trans h1.tape, h2.output.trans h1.output, Nat.le_trans h1.size h2.size, fun k hk => (h2.block k (Nat.lt_of_lt_of_le hk h)).trans (h1.block k hk)⟩
theorem BuilderAt_below {T e : TypeId} {B b : Nat} {p : Value} {bs : List Value} {w w' : World} (h : Lib.BuilderAt T e B b p bs w) (hb : Below w.heap.size w w') : Lib.BuilderAt T e B b p bs w' := by
  have hlt := h.lt
  obtain ⟨hB, v, hbk, hown, hne⟩ := h
  exact ⟨hB, v, (hb.block b hlt).trans hbk, hown.kept (row := none) ⟨hb.os, hb.tape, hb.output, hb.size, fun k hk _ => hb.block k hk⟩ (by simp; exact Classical.em _), hne⟩
set_option maxHeartbeats 1000000 in
set_option maxRecDepth 100000 in
theorem path_Text.calls (a0_0 : ByteArray) (a0_1 : Int) (a0_2 : ByteArray) (a0_3 : Int) (a0_4 : Bool) (a0_5 : Bool) (A0_6 : Option Addr) (c0_6 : Nat) (l0_6 : List (S93)) (r : ByteArray) (w : World) (hr0_6 : Kd.C k93 w A0_6 l0_6.length l0_6) (hc0_6 : l0_6.length ≤ c0_6) (h : path_Text.f a0_0 a0_1 a0_2 a0_3 a0_4 a0_5 l0_6 = some r) :
    Calls Tryd.prog 33 #[.agg #[.string a0_0, .int .i64 a0_1, .string a0_2, .int .i64 a0_3, .bool a0_4, .bool a0_5, .slice A0_6 l0_6.length c0_6]] w fun e w' => e = .returned (.string r) ∧ Below w.heap.size w w' := by
  unfold path_Text.f at h
  split at h
  case isFalse => cases h
  rename_i hs
  have HR_ := Aside0.mk (Option.some.inj h)
  have HR := Aside0.mk hr0_6
  have HSZ := Aside0.mk hs
  clear hr0_6 h hs
  have hu26 := Tryd.underlying26
  have hu23 := Tryd.underlying23
  have hu93 := Tryd.underlying93
  go_enter Tryd.func33, Tryd.ntmps33
  go_wp2_with (fail)
  refine (path_Right.calls a0_0 a0_1 a0_2 a0_3 a0_4 a0_5 A0_6 c0_6 l0_6 (pathB a0_0 a0_1 a0_2 a0_3 l0_6) _ (Kd.C_below HR.out ((Below.refl _ _).alloc (Nat.le_refl _) _)) hc0_6 (by unfold path_Right.f; rw [if_pos HSZ.out])).mono ?_
  rintro e w1 ⟨rfl, hb⟩
  have hz := hb.size
  simp only [World.size_alloc] at hz
  have hblk := (hb.block w.heap.size (by simp)).trans (heap_alloc_new w _)
  have HB1 := Aside0.mk (below_then ((Below.refl w.heap.size w).alloc (Nat.le_refl _) _) (by simp) hb)
  have HK1 := Aside0.mk hblk
  clear hb hblk
  cases hp : pathB a0_0 a0_1 a0_2 a0_3 l0_6 with
  | false =>
    have hr := HR_.out
    rw [hp, if_neg (by simp)] at hr
    subst hr
    clear HR_
    go_wp2_with (fail)
    go_ret
    exact ⟨rfl, HB1.out⟩
  | true =>
    have hr := HR_.out
    rw [hp, if_pos rfl] at hr
    subst hr
    clear HR_
    have hp' := hp
    unfold pathB at hp'
    simp only [Bool.and_eq_true] at hp'
    have HWT := Aside0.mk (word_f a0_0 a0_1 hp'.1)
    have HWF := Aside0.mk (word_f a0_2 a0_3 hp'.2.1)
    have HAL := Aside0.mk hp'.2.2.1
    clear hp' hp
    go_upto_region 4 with fail
    have HBd := Aside0.mk (show Lib.BuilderAt 106 5 w1.heap.size w1.heap.size (.pointer none) [] (w1.alloc (.cells #[.pointer none, .slice none 0 0] 106)) from by
      rcases Lib.fresh_isBuilder 106 5 w1 with h | h
      · exact h
      · have := h.cell0; simp at this)
    have HK := Aside0.mk ((Below.heap_alloc w1 (.cells #[.pointer none, .slice none 0 0] 106) w.heap.size (by omega)).trans HK1.out)
    have HB := Aside0.mk (HB1.out.alloc HB1.out.size (.cells #[.pointer none, .slice none 0 0] 106))
    have HZ := Aside0.mk (show w1.heap.size ≤ (w1.alloc (.cells #[.pointer none, .slice none 0 0] 106)).heap.size by simp)
    have HG := Aside0.mk (show w.heap.size + 1 ≤ w1.heap.size from hz)
    clear HK1 HB1
    generalize w1.alloc (.cells #[.pointer none, .slice none 0 0] 106) = w3 at HBd HK HB HZ ⊢
    go_cut [9] from 9 to 17 (fun v9 wx => Aside0 (Lib.BuilderAt 106 5 w1.heap.size w1.heap.size (.pointer (some ⟨w1.heap.size, 0, none⟩)) (Lib.strCells ((wordS a0_2 a0_3 ++ (⟨#[62]⟩ : ByteArray)) ++ wordS a0_0 a0_1)) wx) ∧
      Aside0 (wx.heap[w.heap.size]? = some (.cells #[.string a0_0, .int .i64 a0_1, .string a0_2, .int .i64 a0_3, .bool a0_4, .bool a0_5, .slice A0_6 l0_6.length c0_6] 26 (0, 0))) ∧ Aside0 (Below w.heap.size w wx) ∧ Aside0 (w1.heap.size ≤ wx.heap.size))
    case first =>
      have n0_ := Aside0.mk (Lib.BuilderAt.drew HBd.out)
      have n1_ : Aside0 (w3.drew.heap[w.heap.size]? = some (.cells #[.string a0_0, .int .i64 a0_1, .string a0_2, .int .i64 a0_3, .bool a0_4, .bool a0_5, .slice A0_6 l0_6.length c0_6] 26 (0, 0))) := ⟨HK.out⟩
      have n2_ := Aside0.mk (below_drew1 HB.out)
      have n3_ : Aside0 (w1.heap.size ≤ w3.drew.heap.size) := ⟨HZ.out⟩
      clear HBd HK HB HZ
      have HBd := n0_
      have HK := n1_
      have HB := n2_
      have HZ := n3_
      clear n0_ n1_ n2_ n3_
      have x0 : w3.cell? ⟨w.heap.size, 0, none⟩ = some (.string a0_0) := blk_cell HK.out 0
      have x1 : w3.cell? ⟨w.heap.size, 1, none⟩ = some (.int .i64 a0_1) := blk_cell HK.out 1
      have x2 : w3.cell? ⟨w.heap.size, 2, none⟩ = some (.string a0_2) := blk_cell HK.out 2
      have x3 : w3.cell? ⟨w.heap.size, 3, none⟩ = some (.int .i64 a0_3) := blk_cell HK.out 3
      have h62 : (⟨#[62]⟩ : ByteArray).size = 1 := rfl
      have hw1 : (wordS a0_2 a0_3).size + 1 ≤ 9223372036854775807 := by have := HWF.out.2; omega
      have hw2 : (wordS a0_2 a0_3 ++ (⟨#[62]⟩ : ByteArray)).size + (wordS a0_0 a0_1).size ≤ 9223372036854775807 := by have := HWF.out.2; have := HWT.out.2; simp only [ByteArray.size_append]; omega
      have hw3 : (wordS a0_2 a0_3).size + 1 + (wordS a0_0 a0_1).size ≤ 9223372036854775807 := by have := HWF.out.2; have := HWT.out.2; omega
      have hws : ∀ W : World, Lib.BuilderAt 106 5 w1.heap.size w1.heap.size (.pointer none) [] W → w1.heap.size ≤ W.heap.size → Calls Tryd.prog 66 #[.pointer (some ⟨w1.heap.size, 0, none⟩), .string ((wordS a0_2 a0_3 ++ (⟨#[62]⟩ : ByteArray)) ++ wordS a0_0 a0_1)] W fun e w' => e = .returned (.tuple #[.int .i64 ((wordS a0_2 a0_3 ++ (⟨#[62]⟩ : ByteArray)) ++ wordS a0_0 a0_1).size, .nilIface]) ∧ (Lib.BuilderAt 106 5 w1.heap.size w1.heap.size (.pointer (some ⟨w1.heap.size, 0, none⟩)) ([] ++ Lib.strCells ((wordS a0_2 a0_3 ++ (⟨#[62]⟩ : ByteArray)) ++ wordS a0_0 a0_1)) w' ∧ Below w1.heap.size W w') := fun W g1 g2 =>
        (writeString w1.heap.size w1.heap.size [] _ W (Or.inl g1) (by have := HWF.out.2; have := HWT.out.2; simp only [ByteArray.size_append, List.length_nil]; omega) g2).mono fun e w' h => ⟨h.1, h.2.1, h.2.2.1⟩
      go_region_with (first | (go_at_call 41; (first | (with_reducible refine (call_Text.calls a0_0 a0_1 (wordS a0_0 a0_1) _ HWT.out.1).mono ?_) | (with_reducible refine (call_Text.calls a0_2 a0_3 (wordS a0_2 a0_3) _ HWF.out.1).mono ?_)); rintro e w' ⟨rfl, hb⟩; have n0_ := Aside0.mk (BuilderAt_below HBd.out hb); have n1_ := Aside0.mk ((hb.block w.heap.size (Nat.lt_of_lt_of_le HG.out HZ.out)).trans HK.out); have n2_ := Aside0.mk (below_then HB.out HB.out.size hb); have n3_ := Aside0.mk (Nat.le_trans HZ.out hb.size); clear HBd HK HB HZ hb; have HBd := n0_; have HK := n1_; have HB := n2_; have HZ := n3_; clear n0_ n1_ n2_ n3_; have x0 : w'.cell? ⟨w.heap.size, 0, none⟩ = some (.string a0_0) := blk_cell HK.out 0; have x1 : w'.cell? ⟨w.heap.size, 1, none⟩ = some (.int .i64 a0_1) := blk_cell HK.out 1; have x2 : w'.cell? ⟨w.heap.size, 2, none⟩ = some (.string a0_2) := blk_cell HK.out 2; have x3 : w'.cell? ⟨w.heap.size, 3, none⟩ = some (.int .i64 a0_3) := blk_cell HK.out 3) | (go_at_call 66; (refine (hws _ HBd.out HZ.out).mono ?_); rintro e w' ⟨rfl, hbd, hb⟩; have n1_ := Aside0.mk ((hb.block w.heap.size HG.out).trans HK.out); have n2_ := Aside0.mk (below_two HB.out (Nat.le_of_lt HG.out) hb); have n3_ := Aside0.mk (Nat.le_trans HZ.out hb.size); have n0_ := Aside0.mk hbd; clear HBd HK HB HZ hb hbd; have HBd := n0_; have HK := n1_; have HB := n2_; have HZ := n3_; clear n0_ n1_ n2_ n3_))
      all_goals (go_wp2_with (fail); go_meet; exact ⟨⟨by simpa using HBd.out⟩, ⟨HK.out⟩, ⟨HB.out⟩, ⟨HZ.out⟩⟩)
    case rest =>
      clear HBd HK HB HZ
      obtain ⟨HBd, HK, HB, HZ⟩ := hcut
      have x6 : wc.cell? ⟨w.heap.size, 6, none⟩ = some (.slice A0_6 l0_6.length c0_6) := blk_cell HK.out 6
      go_wp2
      have HX := Aside0.mk (show Lib.strCells ((wordS a0_2 a0_3 ++ (⟨#[62]⟩ : ByteArray)) ++ wordS a0_0 a0_1) = Lib.byteCells ((wordS a0_2 a0_3).data.toList ++ 62 :: (wordS a0_0 a0_1).data.toList) by rw [Lib.strCells_eq]; simp)
      have HXl := Aside0.mk (show ((wordS a0_2 a0_3).data.toList ++ 62 :: (wordS a0_0 a0_1).data.toList).length ≤ 20 by
        have h1 := HWF.out.2; have h2 := HWT.out.2
        simp only [List.length_append, List.length_cons, Array.length_toList]
        have h3 : (wordS a0_2 a0_3).data.size = (wordS a0_2 a0_3).size := rfl
        have h4 : (wordS a0_0 a0_1).data.size = (wordS a0_0 a0_1).size := rfl
        omega)
      rw [HX.out] at HBd
      have HL := Aside0.mk (show l0_6.length ≤ 1000000 by have := HSZ.out; unfold sizesOk at this; simp at this; exact this.2.2.2)
      go_loopw [4, 5, 21] (fun v4 v5 v21 wr => ∃ (k : Nat) (X : List UInt8), k ≤ l0_6.length ∧ v21 = .int .i64 k ∧ Aside0 (X ++ digT (l0_6.drop k) = pathT a0_0 a0_1 a0_2 a0_3 l0_6) ∧ Aside0 (X.length ≤ 20 + 12 * k) ∧
        Aside0 (Lib.BuilderAt 106 5 w1.heap.size w1.heap.size (.pointer (some ⟨w1.heap.size, 0, none⟩)) (Lib.byteCells X) wr) ∧
        Aside0 (wr.heap[w.heap.size]? = some (.cells #[.string a0_0, .int .i64 a0_1, .string a0_2, .int .i64 a0_3, .bool a0_4, .bool a0_5, .slice A0_6 l0_6.length c0_6] 26 (0, 0))) ∧ Aside0 (Below w.heap.size w wr) ∧ Aside0 (w1.heap.size ≤ wr.heap.size))
        (fun v4 v5 v21 _ => l0_6.length - (intOf v21).toNat)
      case atStart =>
        exact ⟨0, _, Nat.zero_le _, rfl, ⟨by rw [List.drop_zero]; unfold pathT; simp⟩, ⟨by have := HXl.out; omega⟩, HBd, HK, HB, HZ⟩
      case round =>
        clear HBd HK HB HZ x6
        obtain ⟨k, X, hk, rfl, HT, HXk, HBd, HK, HB, HZ⟩ := hrel
        have x6 : wr.cell? ⟨w.heap.size, 6, none⟩ = some (.slice A0_6 l0_6.length c0_6) := blk_cell HK.out 6
        by_cases hlt : k < l0_6.length
        · obtain ⟨ad, hA, y0, y1, y2⟩ := at_T93 HR.out k (by omega) (by omega)
          subst hA
          replace y0 := (HB.out.cell (World.block_lt_of_cell? w _ y0)).trans y0
          replace y1 := (HB.out.cell (World.block_lt_of_cell? w _ y1)).trans y1
          replace y2 := (HB.out.cell (World.block_lt_of_cell? w _ y2)).trans y2
          simp only [Int.toNat_natCast] at y0 y1 y2
          have HD := Aside0.mk (show rightD (rd_T93 l0_6 k) = true from List.all_eq_true.1 HAL.out _ (by unfold rd_T93; rw [Int.toNat_natCast, List.getD_eq_getElem?_getD, List.getElem?_eq_getElem hlt]; exact List.getElem_mem hlt))
          have HWD := Aside0.mk (word_f _ _ HD.out)
          have HNr := Aside0.mk HBd.out.lt
          go_wp2_with (fail)
          refine (call_Text.calls (rd_T93 l0_6 k).f0.f0 (rd_T93 l0_6 k).f0.f1 _ _ HWD.out.1).mono ?_
          rintro e w4 ⟨rfl, hb⟩
          have hbA : Below wr.heap.size wr w4 := below_then ((Below.refl _ _).alloc (Nat.le_refl _) _) (by simp) hb
          have HD4 := Aside0.mk ((hb.block wr.heap.size (by simp)).trans (heap_alloc_new wr _))
          have HBd4 := Aside0.mk (BuilderAt_below HBd.out hbA)
          have HK4 := Aside0.mk ((hbA.block w.heap.size (Nat.lt_of_lt_of_le HG.out HZ.out)).trans HK.out)
          have HB4 := Aside0.mk (below_then HB.out HB.out.size hbA)
          have HZ4 := Aside0.mk (Nat.le_trans HZ.out hbA.size)
          clear HBd HK HB hb hbA x6 y0 y1 y2
          have h44 : (⟨#[44]⟩ : ByteArray).size = 1 := rfl
          have hw1 : 1 + (wordS (rd_T93 l0_6 k).f0.f0 (rd_T93 l0_6 k).f0.f1).size ≤ 9223372036854775807 := by have := HWD.out.2; omega
          go_wp2_with (fail)
          refine (writeString w1.heap.size w1.heap.size (Lib.byteCells X) _ _ (Or.inr HBd4.out) (by have := HWD.out.2; have := HXk.out; have := HL.out; rw [Lib.byteCells_length, ByteArray.size_append]; omega) HZ4.out).mono ?_
          rintro e w5 ⟨rfl, hbd, hb, hkp⟩
          have HBd5 := Aside0.mk hbd
          have HD5 := Aside0.mk (hkp wr.heap.size _ _ (by have := HNr.out; omega) (by decide) HD4.out)
          have HK5 := Aside0.mk ((hb.block w.heap.size HG.out).trans HK4.out)
          have HB5 := Aside0.mk (below_two HB4.out (Nat.le_of_lt HG.out) hb)
          have HZ5 := Aside0.mk (Nat.le_trans HZ4.out hb.size)
          clear HBd4 HD4 HK4 HB4 HZ4 hbd hb hkp
          have x6 : w5.cell? ⟨w.heap.size, 6, none⟩ = some (.slice (some ad) l0_6.length c0_6) := blk_cell HK5.out 6
          have d2 : w5.cell? ⟨wr.heap.size, 2, none⟩ = some (.bool (rd_T93 l0_6 k).f1) := blk_cell HD5.out 2
          have HX5 := Aside0.mk (show Lib.byteCells X ++ Lib.strCells ((⟨#[44]⟩ : ByteArray) ++ wordS (rd_T93 l0_6 k).f0.f0 (rd_T93 l0_6 k).f0.f1) = Lib.byteCells (X ++ 44 :: (wordS (rd_T93 l0_6 k).f0.f0 (rd_T93 l0_6 k).f0.f1).data.toList) by
            rw [Lib.strCells_eq]; simp [Lib.byteCells])
          rw [HX5.out] at HBd5
          have HT5 : ∀ q : List UInt8, (if (rd_T93 l0_6 k).f1 = true ∧ (match l0_6.drop (k + 1) with | [] => true | e :: _ => !e.f1) = true then [42] else []) = q → (X ++ 44 :: (wordS (rd_T93 l0_6 k).f0.f0 (rd_T93 l0_6 k).f0.f1).data.toList ++ q) ++ digT (l0_6.drop (k + 1)) = pathT a0_0 a0_1 a0_2 a0_3 l0_6 := by
            intro q hq
            rw [← HT.out, drop_T93 l0_6 k hlt]
            conv => rhs; unfold digT
            rw [hq]
            simp
          have HT5 := Aside0.mk HT5
          have HX5l := Aside0.mk (show (X ++ 44 :: (wordS (rd_T93 l0_6 k).f0.f0 (rd_T93 l0_6 k).f0.f1).data.toList).length ≤ 20 + 12 * k + 10 by
            have h1 := HXk.out; have h2 := HWD.out.2
            simp only [List.length_append, List.length_cons, Array.length_toList]
            have h3 : (wordS (rd_T93 l0_6 k).f0.f0 (rd_T93 l0_6 k).f0.f1).data.size = (wordS (rd_T93 l0_6 k).f0.f0 (rd_T93 l0_6 k).f0.f1).size := rfl
            omega)
          clear HT HX5 HXk
          generalize hXX : X ++ 44 :: (wordS (rd_T93 l0_6 k).f0.f0 (rd_T93 l0_6 k).f0.f1).data.toList = X5 at HBd5 HT5 HX5l
          clear hXX
          have hwr : wrap64 ((k : Int) + 1) = ((k + 1 : Nat) : Int) := by have := HL.out; unfold wrap64; omega
          cases hf : (rd_T93 l0_6 k).f1 with
          | false =>
            have HQ := Aside0.mk (HT5.out [] (by rw [hf, if_neg (by simp)]))
            clear HT5
            rw [hf] at d2
            go_wp2_with (fail)
            rw [hwr]
            exact ⟨⟨k + 1, X5, by omega, rfl, ⟨by simpa using HQ.out⟩, ⟨by have := HX5l.out; omega⟩, HBd5, HK5, HB5, HZ5⟩, by simp only [intOf]; omega⟩
          | true =>
            rw [hf] at d2
            have hstar : ∀ W : World, Lib.BuilderAt 106 5 w1.heap.size w1.heap.size (.pointer (some ⟨w1.heap.size, 0, none⟩)) (Lib.byteCells X5) W → w1.heap.size ≤ W.heap.size → Calls Tryd.prog 66 #[.pointer (some ⟨w1.heap.size, 0, none⟩), .string ⟨#[42]⟩] W fun e w' => e = .returned (.tuple #[.int .i64 1, .nilIface]) ∧ (Lib.BuilderAt 106 5 w1.heap.size w1.heap.size (.pointer (some ⟨w1.heap.size, 0, none⟩)) (Lib.byteCells (X5 ++ [42])) w' ∧ Below w1.heap.size W w') := fun W g1 g2 =>
              (writeString w1.heap.size w1.heap.size _ ⟨#[42]⟩ W (Or.inr g1) (by have := HX5l.out; have := HL.out; rw [Lib.byteCells_length]; have h42 : (⟨#[42]⟩ : ByteArray).size = 1 := rfl; omega) g2).mono fun e w' h => ⟨h.1, by have := h.2.1; rw [Lib.strCells_eq] at this; simpa [Lib.byteCells] using this, h.2.2.1⟩
            by_cases hlast : k + 1 = l0_6.length
            · have HQ := Aside0.mk (HT5.out [42] (by rw [hf, List.drop_eq_nil_of_le (by omega)]; rfl))
              clear HT5
              have hcmp : ((k : Int) == wrap64 ((l0_6.length : Int) - 1)) = true := by have := HL.out; rw [beq_iff_eq]; unfold wrap64; omega
              go_wp2_with (fail)
              refine (hstar _ HBd5.out HZ5.out).mono ?_
              rintro e w6 ⟨rfl, hbd, hb⟩
              go_wp2_with (fail)
              rw [hwr]
              exact ⟨⟨k + 1, X5 ++ [42], by omega, rfl, HQ, ⟨by rw [List.length_append]; have := HX5l.out; simp only [List.length_cons, List.length_nil]; omega⟩, ⟨hbd⟩, ⟨(hb.block w.heap.size HG.out).trans HK5.out⟩, ⟨below_two HB5.out (Nat.le_of_lt HG.out) hb⟩, ⟨Nat.le_trans HZ5.out hb.size⟩⟩, by simp only [intOf]; omega⟩
            · have hk1 : k + 1 < l0_6.length := by omega
              obtain ⟨ad', hA', z0, z1, z2⟩ := at_T93 HR.out ((k + 1 : Nat) : Int) (by omega) (by omega)
              cases hA'
              replace z2 := (HB5.out.cell (World.block_lt_of_cell? w _ z2)).trans z2
              simp only [Int.toNat_natCast] at z2
              clear z0 z1
              have hcmp : ((k : Int) == wrap64 ((l0_6.length : Int) - 1)) = false := by have := HL.out; rw [beq_eq_false_iff_ne]; unfold wrap64; omega
              have hi0 : 0 ≤ ((k + 1 : Nat) : Int) := by omega
              have hi1 : ((k + 1 : Nat) : Int) < (l0_6.length : Int) := by omega
              cases hg : (rd_T93 l0_6 ((k + 1 : Nat) : Int)).f1 with
              | true =>
                have HQ := Aside0.mk (HT5.out [] (by rw [hf, drop_T93 l0_6 (k + 1) hk1]; show (if true = true ∧ (!(rd_T93 l0_6 ((k + 1 : Nat) : Int)).f1) = true then _ else _) = _; rw [hg]; rfl))
                clear HT5
                rw [hg] at z2
                go_wp2_with (fail)
                rw [hwr]
                exact ⟨⟨k + 1, X5, by omega, rfl, ⟨by simpa using HQ.out⟩, ⟨by have := HX5l.out; omega⟩, HBd5, HK5, HB5, HZ5⟩, by simp only [intOf]; omega⟩
              | false =>
                have HQ := Aside0.mk (HT5.out [42] (by rw [hf, drop_T93 l0_6 (k + 1) hk1]; show (if true = true ∧ (!(rd_T93 l0_6 ((k + 1 : Nat) : Int)).f1) = true then _ else _) = _; rw [hg]; rfl))
                clear HT5
                rw [hg] at z2
                go_wp2_with (fail)
                refine (hstar _ HBd5.out HZ5.out).mono ?_
                rintro e w6 ⟨rfl, hbd, hb⟩
                go_wp2_with (fail)
                rw [hwr]
                exact ⟨⟨k + 1, X5 ++ [42], by omega, rfl, HQ, ⟨by rw [List.length_append]; have := HX5l.out; simp only [List.length_cons, List.length_nil]; omega⟩, ⟨hbd⟩, ⟨(hb.block w.heap.size HG.out).trans HK5.out⟩, ⟨below_two HB5.out (Nat.le_of_lt HG.out) hb⟩, ⟨Nat.le_trans HZ5.out hb.size⟩⟩, by simp only [intOf]; omega⟩
        · obtain rfl : k = l0_6.length := by omega
          go_wp2_with (fail)
          have HXe := Aside0.mk (show pathT a0_0 a0_1 a0_2 a0_3 l0_6 = X by rw [← HT.out, List.drop_length]; simp [digT])
          refine (Tryd.Builder_String_any w1.heap.size w1.heap.size X _ (Or.inr HBd.out) HZ.out).mono ?_
          rintro e w9 ⟨rfl, hb⟩
          go_wp2_with (fail)
          go_ret
          exact ⟨by rw [HXe.out]; rfl, below_two HB.out (Nat.le_of_lt HG.out) hb⟩
end Go.Proofs.YtpmieapgbdbabaaDoor.QAll
end

section
/- Walks, written by a program of this session (wip/pp): a Go function comes to what the Lean function beside it tells. -/
namespace Go.Proofs.YtpmieapgbdbabaaDoor.QAll
open Go.RowKit Go.Proofs.YtpmieapgbdbabaaDoorW.PrintWords Go.Proofs.YtpmieapgbdbabaaDoorW.PrintLast Go.Proofs.YtpmieapgbdbabaaDoorW.PrintMore
set_option linter.unusedVariables false
set_option linter.unusedSimpArgs false

mutual
def squelchref04_Right.j0 : Nat → Bool → ByteArray → Int → Option (Bool)
 | 0, _, _, _ => none
 | k + 1, x24, x274000, x274001 => if x24 = true then (some false) else (squelchref04_Right.l0 k 0 x274000 x274001)
def squelchref04_Right.l0 : Nat → Int → ByteArray → Int → Option (Bool)
 | 0, _, _, _ => none
 | k + 1, x3, x274000, x274001 => if x3 < (x274000.size : Int) then (if 0 ≤ x3 then (if (bt x274000 x3) ≥ 65 then (if (bt x274000 x3) ≤ 90 then (squelchref04_Right.l0 k (wrap64 (x3 + 1)) x274000 x274001) else (if (bt x274000 x3) ≥ 48 then (if ((bt x274000 x3) ≤ 57) then (squelchref04_Right.l0 k (wrap64 (x3 + 1)) x274000 x274001) else (some false)) else (some false))) else (if (bt x274000 x3) ≥ 48 then (if ((bt x274000 x3) ≤ 57) then (squelchref04_Right.l0 k (wrap64 (x3 + 1)) x274000 x274001) else (some false)) else (some false))) else (none)) else (some true)
end
def squelchref04_Right.f (k : Nat) (a0_0 : ByteArray) (a0_1 : Int) : Option (Bool) := if (a0_0.size : Int) < 1 then (squelchref04_Right.j0 k true a0_0 a0_1) else (if (a0_0.size : Int) > 6 then (squelchref04_Right.j0 k true a0_0 a0_1) else (if a0_1 < 0 then (squelchref04_Right.j0 k true a0_0 a0_1) else (squelchref04_Right.j0 k (decide (a0_1 > 15)) a0_0 a0_1)))
end Go.Proofs.YtpmieapgbdbabaaDoor.QAll
end

section
/- Walks, written by a program of this session (wip/pp): a Go function comes to what the Lean function beside it tells. -/
namespace Go.Proofs.YtpmieapgbdbabaaDoor.QAll
open Go.RowKit Go.Proofs.YtpmieapgbdbabaaDoorW.PrintWords Go.Proofs.YtpmieapgbdbabaaDoorW.PrintLast Go.Proofs.YtpmieapgbdbabaaDoorW.PrintMore
set_option linter.unusedVariables false
set_option linter.unusedSimpArgs false

def squelchref04_Digits.f (a0 : Int) : Option (ByteArray) := if a0 < 10 then (if 0 ≤ a0 then (if a0 ≤ (wrap64 (a0 + 1)) then (if (wrap64 (a0 + 1)) ≤ 10 then (some ((⟨#[48, 49, 50, 51, 52, 53, 54, 55, 56, 57]⟩ : ByteArray).extract (a0 : Int).toNat ((wrap64 (a0 + 1)) : Int).toNat)) else (none)) else (none)) else (none)) else (if 0 ≤ (wrap64 (Int.tdiv a0 10)) then (if (wrap64 (Int.tdiv a0 10)) ≤ (wrap64 ((wrap64 (Int.tdiv a0 10)) + 1)) then (if (wrap64 ((wrap64 (Int.tdiv a0 10)) + 1)) ≤ 10 then (if 0 ≤ (Int.tmod a0 10) then (if (Int.tmod a0 10) ≤ (wrap64 ((Int.tmod a0 10) + 1)) then (if (wrap64 ((Int.tmod a0 10) + 1)) ≤ 10 then (if ((⟨#[48, 49, 50, 51, 52, 53, 54, 55, 56, 57]⟩ : ByteArray).extract ((wrap64 (Int.tdiv a0 10)) : Int).toNat ((wrap64 ((wrap64 (Int.tdiv a0 10)) + 1)) : Int).toNat).size + ((⟨#[48, 49, 50, 51, 52, 53, 54, 55, 56, 57]⟩ : ByteArray).extract ((Int.tmod a0 10) : Int).toNat ((wrap64 ((Int.tmod a0 10) + 1)) : Int).toNat).size ≤ 9223372036854775807 then (some (((⟨#[48, 49, 50, 51, 52, 53, 54, 55, 56, 57]⟩ : ByteArray).extract ((wrap64 (Int.tdiv a0 10)) : Int).toNat ((wrap64 ((wrap64 (Int.tdiv a0 10)) + 1)) : Int).toNat) ++ ((⟨#[48, 49, 50, 51, 52, 53, 54, 55, 56, 57]⟩ : ByteArray).extract ((Int.tmod a0 10) : Int).toNat ((wrap64 ((Int.tmod a0 10) + 1)) : Int).toNat))) else (none)) else (none)) else (none)) else (none)) else (none)) else (none)) else (none))
end Go.Proofs.YtpmieapgbdbabaaDoor.QAll
end

section
/- Walks, written by a program of this session (wip/pp): a Go function comes to what the Lean function beside it tells. -/
namespace Go.Proofs.YtpmieapgbdbabaaDoor.QAll
open Go.RowKit Go.Proofs.YtpmieapgbdbabaaDoorW.PrintWords Go.Proofs.YtpmieapgbdbabaaDoorW.PrintLast Go.Proofs.YtpmieapgbdbabaaDoorW.PrintMore
set_option linter.unusedVariables false
set_option linter.unusedSimpArgs false

mutual
def squelchref04_Parse.l0 : Nat → ByteArray → Int → ByteArray → Int → Option (ByteArray × Int × Bool)
 | 0, _, _, _, _ => none
 | k + 1, x0, x5, x426000, x426001 => if x5 < (x0.size : Int) then (if 0 ≤ x5 then (squelchref04_Parse.j1 k x0 x5 ((bt x0 x5) != 45) x426000 x426001) else (none)) else (squelchref04_Parse.j1 k x0 x5 false x426000 x426001)
def squelchref04_Parse.j1 : Nat → ByteArray → Int → Bool → ByteArray → Int → Option (ByteArray × Int × Bool)
 | 0, _, _, _, _, _ => none
 | k + 1, x0, x5, x19, x426000, x426001 => if x19 = true then (if 0 ≤ x5 then (if x5 < (x0.size : Int) then (if (bt x0 x5) ≥ 97 then (if (bt x0 x5) ≤ 122 then ((some (([((bt x0 x5) - 32) % 256] : List Int) : List Int)).bind fun y426 => (if x426000.size + (strOfNums y426).size ≤ 9223372036854775807 then (squelchref04_Parse.l0 k x0 (wrap64 (x5 + 1)) (x426000 ++ (strOfNums y426)) x426001) else (none))) else ((some (([bt x0 x5] : List Int) : List Int)).bind fun y429 => (if x426000.size + (strOfNums y429).size ≤ 9223372036854775807 then (squelchref04_Parse.l0 k x0 (wrap64 (x5 + 1)) (x426000 ++ (strOfNums y429)) x426001) else (none)))) else ((some (([bt x0 x5] : List Int) : List Int)).bind fun y432 => (if x426000.size + (strOfNums y432).size ≤ 9223372036854775807 then (squelchref04_Parse.l0 k x0 (wrap64 (x5 + 1)) (x426000 ++ (strOfNums y432)) x426001) else (none)))) else (none)) else (none)) else (if x5 < (x0.size : Int) then (squelchref04_Parse.l1 k x0 x5 false 0 x426000 x426001) else ((squelchref04_Right.f k x426000 x426001).bind fun t437 => (if t437 = true then (some (x426000, x426001, true)) else (some ((⟨#[]⟩ : ByteArray), 0, false)))))
def squelchref04_Parse.l1 : Nat → ByteArray → Int → Bool → Int → ByteArray → Int → Option (ByteArray × Int × Bool)
 | 0, _, _, _, _, _, _ => none
 | k + 1, x0, x5, x7, x8, x426000, x426001 => if x8 ≤ 15 then ((squelchref04_Digits.f x8).bind fun t435 => (if 0 ≤ (wrap64 (x5 + 1)) then (if (wrap64 (x5 + 1)) ≤ (x0.size : Int) then (if t435.toList = (x0.extract ((wrap64 (x5 + 1)) : Int).toNat x0.size).toList then (squelchref04_Parse.l1 k x0 x5 true (wrap64 (x8 + 1)) x426000 x8) else (squelchref04_Parse.l1 k x0 x5 x7 (wrap64 (x8 + 1)) x426000 x426001)) else (none)) else (none))) else (if x7 = true then ((squelchref04_Right.f k x426000 x426001).bind fun t436 => (if t436 = true then (some (x426000, x426001, true)) else (some ((⟨#[]⟩ : ByteArray), 0, false)))) else (some ((⟨#[]⟩ : ByteArray), 0, false)))
end
def squelchref04_Parse.f (k : Nat) (a0 : ByteArray) : Option (ByteArray × Int × Bool) := squelchref04_Parse.l0 k a0 0 (⟨#[]⟩ : ByteArray) 0
end Go.Proofs.YtpmieapgbdbabaaDoor.QAll
end

section
/- Walks, written by a program of this session (wip/pp): a Go function comes to what the Lean function beside it tells. -/
namespace Go.Proofs.YtpmieapgbdbabaaDoor.QAll
open Go.RowKit Go.Proofs.YtpmieapgbdbabaaDoorW.PrintWords Go.Proofs.YtpmieapgbdbabaaDoorW.PrintLast Go.Proofs.YtpmieapgbdbabaaDoorW.PrintMore
set_option linter.unusedVariables false
set_option linter.unusedSimpArgs false

def squelchref04_Text.f (a0_0 : ByteArray) (a0_1 : Int) : Option (ByteArray) := if a0_1 = 0 then (some a0_0) else (if a0_0.size + 1 ≤ 9223372036854775807 then ((squelchref04_Digits.f a0_1).bind fun t345 => (if (a0_0 ++ (⟨#[45]⟩ : ByteArray)).size + t345.size ≤ 9223372036854775807 then (some ((a0_0 ++ (⟨#[45]⟩ : ByteArray)) ++ t345)) else (none))) else (none))
end Go.Proofs.YtpmieapgbdbabaaDoor.QAll
end

section
/- What the reference says of a call's word: which call is right, its digits, and what is read of a word: as much as the walked program tells; over plain strings and numbers. -/
set_option linter.unusedVariables false
namespace Go.Proofs.YtpmieapgbdbabaaDoor.Pure
open Go.RowKit Go.Proofs.YtpmieapgbdbabaaDoor.QAll Go.Proofs.YtpmieapgbdbabaaDoorW.PrintWords Go.Proofs.YtpmieapgbdbabaaDoorW.PrintLast

theorem ba_eq {a b : ByteArray} (h : a.toList = b.toList) : a = b := by
  rw [Go.ByteArray.toList_eq, Go.ByteArray.toList_eq] at h
  cases a; cases b
  congr 1
  exact Array.ext' h
theorem len_eq (a : ByteArray) : a.toList.length = a.size := by rw [Go.ByteArray.toList_eq]; simp
theorem bt_at (s : ByteArray) (i : Nat) (h : i < s.size) : ∃ c r, s.toList.drop i = c :: r ∧ s.toList.drop (i + 1) = r ∧ bt s i = (c.toNat : Int) := by
  have hl : i < s.toList.length := by rw [len_eq]; exact h
  refine ⟨s.toList[i], s.toList.drop (i + 1), List.drop_eq_getElem_cons hl, rfl, ?_⟩
  rw [bt_data s i h]
  congr 2
  simp only [Go.ByteArray.toList_eq]
theorem drop_all (s : ByteArray) (i : Nat) (h : s.size ≤ i) : s.toList.drop i = [] := List.drop_eq_nil_of_le (by rw [len_eq]; exact h)
theorem wrap_succ (i : Nat) (h : i < 9223372036854775807) : wrap64 ((i : Int) + 1) = ((i + 1 : Nat) : Int) := by unfold wrap64; omega

theorem ref_right_l (s : ByteArray) (n : Int) (hs : s.size < 9223372036854775807) : ∀ (d k i : Nat), s.size - i ≤ d → d + 1 ≤ k → i ≤ s.size →
    squelchref04_Right.l0 k (i : Int) s n = some ((s.toList.drop i).all fun c => letB c.toNat)
  | d, 0, i, _, hk, _ => absurd hk (by omega)
  | d, k + 1, i, hd, hk, hi => by
    rw [squelchref04_Right.l0]
    by_cases h : i < s.size
    · obtain ⟨c, r, e1, e2, e3⟩ := bt_at s i h
      obtain ⟨d', rfl⟩ : ∃ d', d = d' + 1 := ⟨d - 1, by omega⟩
      have ih := ref_right_l s n hs d' k (i + 1) (by omega) (by omega) (by omega)
      rw [if_pos (by omega), if_pos (by omega), e3, wrap_succ i (by omega), ih, e1, e2]
      simp only [List.all_cons]
      unfold letB
      by_cases h1 : (c.toNat : Int) ≥ 65
      · rw [if_pos h1]
        by_cases h2 : (c.toNat : Int) ≤ 90
        · rw [if_pos h2, decide_eq_true (by omega), Bool.true_and]
        · rw [if_neg h2, if_pos (by omega), if_neg (by omega), decide_eq_false (by omega), Bool.false_and]
      · rw [if_neg h1]
        by_cases h2 : (c.toNat : Int) ≥ 48
        · rw [if_pos h2]
          by_cases h3 : (c.toNat : Int) ≤ 57
          · rw [if_pos h3, decide_eq_true (by omega), Bool.true_and]
          · rw [if_neg h3, decide_eq_false (by omega), Bool.false_and]
        · rw [if_neg h2, decide_eq_false (by omega), Bool.false_and]
    · rw [if_neg (by omega), drop_all s i (by omega)]
      rfl
theorem ref_right (s : ByteArray) (n : Int) (hs : s.size < 9223372036854775807) (k : Nat) (hk : s.size + 2 ≤ k) : squelchref04_Right.f k s n = some (rightB s n) := by
  obtain ⟨k, rfl⟩ : ∃ k', k = k' + 1 := ⟨k - 1, by omega⟩
  unfold squelchref04_Right.f rightB
  have h0 := ref_right_l s n hs s.size k 0 (by omega) (by omega) (by omega)
  simp only [squelchref04_Right.j0]
  rw [show ((0 : Nat) : Int) = 0 from rfl] at h0
  rw [h0, List.drop_zero]
  have hl : letsB s = s.toList.all fun c => letB c.toNat := by unfold letsB; rw [Go.ByteArray.toList_eq]
  rw [hl]
  by_cases h1 : (s.size : Int) < 1
  · rw [if_pos h1, if_pos trivial, decide_eq_false (show ¬ 1 ≤ s.size by omega)]; simp
  · rw [if_neg h1, decide_eq_true (show 1 ≤ s.size by omega)]
    by_cases h2 : (s.size : Int) > 6
    · rw [if_pos h2, if_pos trivial, decide_eq_false (show ¬ s.size ≤ 6 by omega)]; simp
    · rw [if_neg h2, decide_eq_true (show s.size ≤ 6 by omega)]
      by_cases h3 : n < 0
      · rw [if_pos h3, if_pos trivial, decide_eq_false (show ¬ 0 ≤ n by omega)]; simp
      · rw [if_neg h3, decide_eq_true (show 0 ≤ n by omega)]
        by_cases h4 : n > 15
        · rw [decide_eq_true h4, if_pos rfl, decide_eq_false (show ¬ n ≤ 15 by omega)]; simp
        · rw [decide_eq_false h4, if_neg (by simp), decide_eq_true (show n ≤ 15 by omega)]; simp

def digs (n : Nat) : List UInt8 := if n < 10 then [UInt8.ofNat (48 + n)] else [UInt8.ofNat (48 + n / 10), UInt8.ofNat (48 + n % 10)]
theorem digs_dec (n : Nat) (h : n < 100) : Lib.decDigits n = digs n := by
  unfold digs
  by_cases h1 : n < 10
  · rw [if_pos h1, Lib.decDigits_one h1]
  · rw [if_neg h1, Lib.decDigits_two h1 h]
theorem ref_digits_all : ((List.range 100).all fun n => decide ((squelchref04_Digits.f (n : Int)).map (·.toList) = some (digs n))) = true := by kernel_rfl
theorem ref_digits (n : Nat) (h : n < 100) : squelchref04_Digits.f (n : Int) = some ⟨(digs n).toArray⟩ := by
  have h1 := of_decide_eq_true (List.all_eq_true.1 ref_digits_all n (List.mem_range.2 h))
  cases hx : squelchref04_Digits.f (n : Int) with
  | none => rw [hx] at h1; cases h1
  | some y =>
    rw [hx] at h1
    congr 1
    apply ba_eq
    rw [Option.map_some] at h1
    rw [Option.some.inj h1, Go.ByteArray.toList_eq]
theorem digs_inj_all : ((List.range 16).all fun a => (List.range 16).all fun b => decide (digs a = digs b → a = b)) = true := by kernel_rfl
theorem digs_inj (a b : Nat) (ha : a < 16) (hb : b < 16) (h : digs a = digs b) : a = b :=
  of_decide_eq_true (List.all_eq_true.1 (List.all_eq_true.1 digs_inj_all a (List.mem_range.2 ha)) b (List.mem_range.2 hb)) h
theorem digs_atoi_all : ((List.range 16).all fun a => decide (Lib.atoiAll (digs a) = .ok (a : Int))) = true := by kernel_rfl
theorem digs_atoi (a : Nat) (ha : a < 16) : Lib.atoiAll (digs a) = .ok (a : Int) := of_decide_eq_true (List.all_eq_true.1 digs_atoi_all a (List.mem_range.2 ha))
theorem numOf_digs (t : ByteArray) (n : Nat) (hn : n < 16) (h : t.toList = digs n) : numOf t = some (n : Int) := by
  unfold numOf
  rw [Go.ByteArray.toList_eq] at h
  rw [h, digs_atoi n hn]
  have : Lib.itoa (n : Int) = digs n := by
    unfold Lib.itoa
    rw [if_neg (by omega)]
    exact digs_dec n (by omega)
  simp only
  rw [if_pos this]
theorem numOf_some (t : ByteArray) (v : Int) (h : numOf t = some v) (h0 : 0 ≤ v) (h1 : v ≤ 15) : ∃ n : Nat, n < 16 ∧ v = n ∧ t.toList = digs n := by
  unfold numOf at h
  split at h
  · split at h
    · rename_i v' hv he
      obtain rfl := Option.some.inj h
      obtain ⟨n, rfl⟩ := Int.eq_ofNat_of_zero_le h0
      refine ⟨n, by omega, rfl, ?_⟩
      rw [Go.ByteArray.toList_eq, ← he]
      unfold Lib.itoa
      rw [if_neg (by omega)]
      exact digs_dec n (by omega)
    · cases h
  · cases h

def upB (c : UInt8) : UInt8 := if 97 ≤ c.toNat ∧ c.toNat ≤ 122 then UInt8.ofNat (c.toNat - 32) else c
theorem upper_list (s : ByteArray) : (upperS s).toList = s.toList.map upB := by
  rw [Go.ByteArray.toList_eq, Go.ByteArray.toList_eq]
  unfold upperS upL strOfNums bytesOf
  simp only [List.map_map]
  apply List.map_congr_left
  intro c _
  simp only [Function.comp, upI, upB]
  have hc := c.toNat_lt
  by_cases h : 97 ≤ c.toNat ∧ c.toNat ≤ 122
  · rw [if_pos (by omega), if_pos h]
    congr 1
    omega
  · rw [if_neg (by omega), if_neg h]
    simp
theorem upB_45 (c : UInt8) : upB c = 45 ↔ c = 45 := by
  unfold upB
  split
  · rename_i h
    constructor
    · intro e
      have := congrArg UInt8.toNat e
      rw [UInt8.toNat_ofNat'] at this
      have hc := c.toNat_lt
      simp at this
      omega
    · rintro rfl; simp at h
  · rfl
theorem digs_small_all : ((List.range 16).all fun a => (digs a).all fun c => decide (c.toNat < 65)) = true := by kernel_rfl
theorem up_small (l : List UInt8) (h : ∀ c ∈ l.map upB, c.toNat < 65) : l.map upB = l := by
  induction l with
  | nil => rfl
  | cons c r ih =>
    simp only [List.map_cons, List.mem_cons, forall_eq_or_imp] at h ⊢
    rw [ih h.2]
    congr 1
    have h1 := h.1
    unfold upB at h1 ⊢
    split at h1
    · rename_i h2
      rw [UInt8.toNat_ofNat'] at h1
      have hc := c.toNat_lt
      omega
    · rename_i h2; rw [if_neg h2]
theorem up_fix (l : List UInt8) (h : ∀ c ∈ l, c.toNat < 97) : l.map upB = l := by
  induction l with
  | nil => rfl
  | cons c r ih =>
    simp only [List.mem_cons, forall_eq_or_imp, List.map_cons] at h ⊢
    rw [ih h.2]
    congr 1
    unfold upB
    rw [if_neg (by omega)]
theorem digs_up (l : List UInt8) (n : Nat) (hn : n < 16) : l.map upB = digs n ↔ l = digs n := by
  have hd : ∀ c ∈ digs n, c.toNat < 65 := fun c hc => of_decide_eq_true (List.all_eq_true.1 (List.all_eq_true.1 digs_small_all n (List.mem_range.2 hn)) c hc)
  constructor
  · intro h
    rw [← up_small l (by rw [h]; exact hd), h]
  · rintro rfl
    exact up_fix _ fun c hc => by have := hd c hc; omega

theorem toList_app (a b : ByteArray) : (a ++ b).toList = a.toList ++ b.toList := by
  simp [Go.ByteArray.toList_eq]
theorem toList_ext (a : ByteArray) (i j : Nat) : (a.extract i j).toList = (a.toList.take j).drop i := by
  simp [Go.ByteArray.toList_eq, ByteArray.data_extract, List.drop_take]
theorem strOf_one (x : Int) : (strOfNums [x]).toList = [UInt8.ofNat x.toNat] := by
  rw [Go.ByteArray.toList_eq]; rfl
/-- The end of the search for the digits. -/
def finP (K : Nat) (found : Bool) (b : ByteArray) (n : Int) : Option (ByteArray × Int × Bool) :=
  if found = true then (if rightB b n = true then some (b, n, true) else some (⟨#[]⟩, 0, false)) else some (⟨#[]⟩, 0, false)
theorem l1_step (k : Nat) (s : ByteArray) (q : Nat) (hq : q < s.size) (hs : s.size < 9223372036854775807) (f : Bool) (x : Nat) (hx : x < 16) (b : ByteArray) (n : Int) :
    squelchref04_Parse.l1 (k + 1) s (q : Int) f (x : Int) b n = if digs x = s.toList.drop (q + 1) then squelchref04_Parse.l1 k s (q : Int) true ((x + 1 : Nat) : Int) b (x : Int) else squelchref04_Parse.l1 k s (q : Int) f ((x + 1 : Nat) : Int) b n := by
  rw [squelchref04_Parse.l1, if_pos (by omega), ref_digits x (by omega), Option.bind_some, wrap_succ q (by omega), wrap_succ x (by omega), if_pos (by omega), if_pos (by omega)]
  have e : (s.extract ((q + 1 : Nat) : Int).toNat s.size).toList = s.toList.drop (q + 1) := by
    rw [toList_ext, show ((q + 1 : Nat) : Int).toNat = q + 1 from by omega, List.take_of_length_le (by rw [len_eq]; omega)]
  rw [e]
  have e2 : (⟨(digs x).toArray⟩ : ByteArray).toList = digs x := by rw [Go.ByteArray.toList_eq]
  rw [e2]
theorem l1_end (k : Nat) (s : ByteArray) (q : Nat) (f : Bool) (b : ByteArray) (n : Int) (hb : b.size < 9223372036854775807) (hk : b.size + 2 ≤ k) :
    squelchref04_Parse.l1 (k + 1) s (q : Int) f ((16 : Nat) : Int) b n = finP 0 f b n := by
  rw [squelchref04_Parse.l1, if_neg (by omega), ref_right b n hb k hk]
  unfold finP
  simp only [Option.bind_some]
theorem l1_none (s : ByteArray) (q : Nat) (hq : q < s.size) (hs : s.size < 9223372036854775807) (b : ByteArray) (hb : b.size < 9223372036854775807) : ∀ (d x k : Nat) (f : Bool) (n : Int), x + d = 16 → d + b.size + 3 ≤ k →
    (∀ y, x ≤ y → y < 16 → digs y ≠ s.toList.drop (q + 1)) → squelchref04_Parse.l1 k s (q : Int) f (x : Int) b n = finP 0 f b n
  | d, x, 0, f, n, _, hk, _ => absurd hk (by omega)
  | 0, x, k + 1, f, n, hx, hk, h => by
    obtain rfl : x = 16 := by omega
    exact l1_end k s q f b n hb (by omega)
  | d + 1, x, k + 1, f, n, hx, hk, h => by
    rw [l1_step k s q hq hs f x (by omega) b n, if_neg (h x (Nat.le_refl _) (by omega))]
    exact l1_none s q hq hs b hb d (x + 1) k f n (by omega) (by omega) (fun y h1 h2 => h y (by omega) h2)
theorem l1_some (s : ByteArray) (q : Nat) (hq : q < s.size) (hs : s.size < 9223372036854775807) (b : ByteArray) (hb : b.size < 9223372036854775807) (m : Nat) (hm : m < 16) (hd : digs m = s.toList.drop (q + 1)) : ∀ (d x k : Nat) (f : Bool) (n : Int), x + d = 16 → d + b.size + 3 ≤ k → x ≤ m →
    squelchref04_Parse.l1 k s (q : Int) f (x : Int) b n = finP 0 true b (m : Int)
  | d, x, 0, f, n, _, hk, _ => absurd hk (by omega)
  | 0, x, k + 1, f, n, hx, hk, h => by omega
  | d + 1, x, k + 1, f, n, hx, hk, h => by
    rw [l1_step k s q hq hs f x (by omega) b n]
    by_cases e : x = m
    · subst e
      rw [if_pos hd]
      exact l1_none s q hq hs b hb d (x + 1) k true x (by omega) (by omega) (fun y h1 h2 h3 => by
        have := digs_inj y x h2 hm (h3.trans hd.symm)
        omega)
    · rw [if_neg (fun h3 => e (digs_inj x m (by omega) hm (h3.trans hd.symm)))]
      exact l1_some s q hq hs b hb m hm hd d (x + 1) k f n (by omega) (by omega) (by omega)
theorem l0_loop (s : ByteArray) (hs : s.size ≤ 281474976710656) (q : Nat) (hq : q ≤ s.size) (h1 : ∀ j : Nat, j < q → s.toList[j]? ≠ some 45) (h2 : q < s.size → s.toList[q]? = some 45) (K : Nat) (R : Option (ByteArray × Int × Bool))
    (hR : ∀ (k : Nat) (b : ByteArray), K ≤ k → b.toList = (s.toList.take q).map upB → squelchref04_Parse.j1 k s (q : Int) false b 0 = R) : ∀ (d i k : Nat) (b : ByteArray), q - i ≤ d → i ≤ q → 2 * d + 1 + K ≤ k → b.toList = (s.toList.take i).map upB →
    squelchref04_Parse.l0 k s (i : Int) b 0 = R
  | d, i, 0, b, _, _, hk, _ => absurd hk (by omega)
  | d, i, k + 1, b, hd, hi, hk, hb => by
    rw [squelchref04_Parse.l0]
    by_cases e : i = q
    · subst e
      by_cases h : i < s.size
      · obtain ⟨c, r, e1, e2, e3⟩ := bt_at s i h
        have hc : s.toList[i]? = some c := by
          have := congrArg (·[0]?) e1
          simpa using this
        have hc45 : c = 45 := by rw [h2 h] at hc; exact (Option.some.inj hc).symm
        rw [if_pos (by omega), if_pos (by omega), e3, hc45]
        exact hR k b (by omega) hb
      · rw [if_neg (by omega)]
        exact hR k b (by omega) hb
    · have h : i < s.size := by omega
      obtain ⟨c, r, e1, e2, e3⟩ := bt_at s i h
      have hc : s.toList[i]? = some c := by
        have := congrArg (·[0]?) e1
        simpa using this
      have hc45 : c ≠ 45 := fun e => h1 i (by omega) (by rw [hc, e])
      have hn45 : ((c.toNat : Int) != 45) = true := by
        rw [bne_iff_ne]
        intro e
        apply hc45
        apply UInt8.toNat_inj.1
        show c.toNat = 45
        omega
      obtain ⟨d', rfl⟩ : ∃ d', d = d' + 1 := ⟨d - 1, by omega⟩
      obtain ⟨k, rfl⟩ : ∃ k', k = k' + 1 := ⟨k - 1, by omega⟩
      have hbs : b.size = i := by
        rw [← len_eq, hb, List.length_map, List.length_take, len_eq]; omega
      rw [if_pos (by omega), if_pos (by omega), e3, hn45, squelchref04_Parse.j1, if_pos rfl, if_pos (by omega), if_pos (by omega), e3, wrap_succ i (by omega)]
      have ht : s.toList.take (i + 1) = s.toList.take i ++ [c] := by
        rw [List.take_add_one, hc]; rfl
      have hgo : ∀ x : Int, UInt8.ofNat x.toNat = upB c → (if b.size + (strOfNums [x]).size ≤ 9223372036854775807 then squelchref04_Parse.l0 k s ((i + 1 : Nat) : Int) (b ++ strOfNums [x]) 0 else none) = R := fun x hx => by
        have h1s : (strOfNums [x]).size = 1 := rfl
        rw [if_pos (by rw [h1s]; omega)]
        refine l0_loop s hs q hq h1 h2 K R hR d' (i + 1) k _ (by omega) (by omega) (by omega) ?_
        rw [toList_app, strOf_one, ht, List.map_append, hb, hx]
        rfl
      simp only [Option.bind_some]
      have hcl := c.toNat_lt
      by_cases h3 : (c.toNat : Int) ≥ 97
      · rw [if_pos h3]
        by_cases h4 : (c.toNat : Int) ≤ 122
        · rw [if_pos h4]
          refine hgo _ ?_
          unfold upB
          rw [if_pos (by omega)]
          congr 1
          omega
        · rw [if_neg h4]
          refine hgo _ ?_
          unfold upB
          rw [if_neg (by omega)]
          simp
      · rw [if_neg h3]
        refine hgo _ ?_
        unfold upB
        rw [if_neg (by omega)]
        simp
theorem index_up (l : List UInt8) : Lib.indexByte (l.map upB) 45 = Lib.indexByte l 45 := by
  induction l with
  | nil => rfl
  | cons c r ih =>
    simp only [List.map_cons, Lib.indexByte, ih]
    have : (upB c == 45) = (c == 45) := by
      by_cases h : c = 45
      · rw [beq_iff_eq.2 h, beq_iff_eq.2 ((upB_45 c).2 h)]
      · rw [beq_eq_false_iff_ne.2 h, beq_eq_false_iff_ne.2 (fun e => h ((upB_45 c).1 e))]
    rw [this]
theorem parse_err (s : ByteArray) : (parseS s).2.2 = 0 ∨ (parseS s).2.2 = 12 := by
  unfold parseS
  split
  · split
    · split
      · exact Or.inl rfl
      · exact Or.inr rfl
    · exact Or.inr rfl
  · split
    · exact Or.inl rfl
    · exact Or.inr rfl
theorem ref_parse (s : ByteArray) (hs : s.size ≤ 281474976710656) (k : Nat) (hk : 3 * s.size + 25 ≤ k) : squelchref04_Parse.f k s = some ((parseS s).1, (parseS s).2.1, (parseS s).2.2 == 0) := by
  unfold squelchref04_Parse.f
  have hul : (upperS s).data.toList = s.toList.map upB := by rw [← Go.ByteArray.toList_eq]; exact upper_list s
  have hix : Lib.indexByte (upperS s).data.toList 45 = Lib.indexByte s.toList 45 := by rw [hul, index_up]
  have hus : (upperS s).size = s.size := upper_size s
  by_cases hhas : 0 ≤ Lib.indexByte s.toList 45
  · obtain ⟨q, hq⟩ := Int.eq_ofNat_of_zero_le hhas
    have hlt : q < s.size := by rw [← len_eq]; exact indexByte_lt _ _ _ hq
    obtain ⟨g1, g2⟩ := Lib.indexByte_some hq
    have hH : cutHas (upperS s) 45 = true := by unfold cutHas; rw [hix]; exact decide_eq_true hhas
    have hI : idxOf (upperS s) 45 = q := by unfold idxOf; rw [hix, hq]; rfl
    have hA : (cutA (upperS s) 45).toList = (s.toList.take q).map upB := by
      unfold cutA; rw [if_pos hH, hI, toList_ext, upper_list, List.drop_zero, List.map_take]
    have hB : (cutB (upperS s) 45).toList = (s.toList.drop (q + 1)).map upB := by
      unfold cutB; rw [if_pos hH, hI, toList_ext, upper_list, List.take_of_length_le (by rw [List.length_map, len_eq]; omega), List.map_drop]
    have hAs : (cutA (upperS s) 45).size = q := by rw [← len_eq, hA, List.length_map, List.length_take, len_eq]; omega
    refine l0_loop s hs q (by omega) g2 (fun _ => g1) (s.size + 21) _ (fun k' b hk' hb => ?_) s.size 0 k _ (by omega) (by omega) (by omega) (by rw [List.take_zero, Go.ByteArray.toList_eq]; rfl)
    obtain rfl : b = cutA (upperS s) 45 := ba_eq (hb.trans hA.symm)
    obtain ⟨k', rfl⟩ : ∃ k'', k' = k'' + 1 := ⟨k' - 1, by omega⟩
    rw [squelchref04_Parse.j1, if_neg (by simp), if_pos (by omega)]
    by_cases hex : ∃ m, m < 16 ∧ digs m = s.toList.drop (q + 1)
    · obtain ⟨m, hm, hmd⟩ := hex
      have hn : numOf (cutB (upperS s) 45) = some (m : Int) := numOf_digs _ m hm (by rw [hB, digs_up _ m hm, hmd])
      have := l1_some s q hlt (by omega) (cutA (upperS s) 45) (by omega) m hm hmd 16 0 k' false 0 (by omega) (by omega) (by omega)
      rw [show ((0 : Nat) : Int) = 0 from rfl] at this
      rw [this]
      unfold finP parseS
      rw [if_pos rfl, if_pos hH, hn]
      simp only
      split <;> rfl
    · have := l1_none s q hlt (by omega) (cutA (upperS s) 45) (by omega) 16 0 k' false 0 (by omega) (by omega) (fun y _ hy e => hex ⟨y, hy, e⟩)
      rw [show ((0 : Nat) : Int) = 0 from rfl] at this
      rw [this]
      unfold finP parseS
      rw [if_neg (by simp), if_pos hH]
      cases hn : numOf (cutB (upperS s) 45) with
      | none => rfl
      | some v =>
        simp only
        by_cases hr : rightB (cutA (upperS s) 45) v = true
        · exfalso
          have hr' := hr
          unfold rightB at hr'
          simp only [Bool.and_eq_true, decide_eq_true_eq] at hr'
          obtain ⟨m, hm, rfl, hmd⟩ := numOf_some _ v hn (by omega) (by omega)
          rw [hB, digs_up _ m hm] at hmd
          exact hex ⟨m, hm, hmd.symm⟩
        · rw [if_neg hr]; rfl
  · have hm1 : Lib.indexByte s.toList 45 = -1 := by have := Lib.indexByte_ge s.toList 45; omega
    have hno := Lib.indexByte_none hm1
    have hH : cutHas (upperS s) 45 = false := by unfold cutHas; rw [hix]; exact decide_eq_false hhas
    have hA : cutA (upperS s) 45 = upperS s := by unfold cutA; rw [if_neg (by rw [hH]; simp)]
    refine l0_loop s hs s.size (Nat.le_refl _) (fun j _ => hno j) (fun h => absurd h (by omega)) (s.size + 21) _ (fun k' b hk' hb => ?_) s.size 0 k _ (by omega) (by omega) (by omega) (by rw [List.take_zero, Go.ByteArray.toList_eq]; rfl)
    obtain rfl : b = upperS s := ba_eq (by rw [hb, upper_list, List.take_of_length_le (by rw [len_eq]; omega)])
    obtain ⟨k', rfl⟩ : ∃ k'', k' = k'' + 1 := ⟨k' - 1, by omega⟩
    rw [squelchref04_Parse.j1, if_neg (by simp), if_neg (by omega), ref_right _ _ (by omega) k' (by omega), Option.bind_some]
    have hp : parseS s = if rightB (upperS s) 0 = true then (upperS s, 0, 0) else (⟨#[]⟩, 0, 12) := by
      unfold parseS
      simp only [hH, hA]
      rfl
    rw [hp]
    split <;> rfl
end Go.Proofs.YtpmieapgbdbabaaDoor.Pure
end

section
/- What a right call's word is, and that it is read as the call; over plain strings and numbers. -/
set_option linter.unusedVariables false
namespace Go.Proofs.YtpmieapgbdbabaaDoor.Pure
open Go.RowKit Go.Proofs.YtpmieapgbdbabaaDoor.QAll Go.Proofs.YtpmieapgbdbabaaDoorW.PrintWords Go.Proofs.YtpmieapgbdbabaaDoorW.PrintLast

theorem right_parts {s : ByteArray} {n : Int} (h : rightB s n = true) : (∀ c ∈ s.toList, (65 ≤ c.toNat ∧ c.toNat ≤ 90) ∨ (48 ≤ c.toNat ∧ c.toNat ≤ 57)) ∧ 1 ≤ s.size ∧ s.size ≤ 6 ∧ 0 ≤ n ∧ n ≤ 15 := by
  unfold rightB at h
  simp only [Bool.and_eq_true, decide_eq_true_eq] at h
  refine ⟨fun c hc => ?_, h.2⟩
  have h1 := h.1
  unfold letsB at h1
  rw [← Go.ByteArray.toList_eq] at h1
  have := List.all_eq_true.1 h1 c hc
  unfold letB at this
  simp only [decide_eq_true_eq] at this
  omega
/-- A right call's word. -/
def textS (s : ByteArray) (n : Int) : ByteArray := if n = 0 then s else (s ++ (⟨#[45]⟩ : ByteArray)) ++ ⟨(digs n.toNat).toArray⟩
theorem digs_len (n : Nat) : (digs n).length ≤ 2 := by unfold digs; split <;> simp
theorem digs_size (n : Nat) : (⟨(digs n).toArray⟩ : ByteArray).size ≤ 2 := by
  have := digs_len n
  show (digs n).toArray.size ≤ 2
  simpa using this
theorem text_size (s : ByteArray) (n : Int) : (textS s n).size ≤ s.size + 3 := by
  unfold textS
  split
  · omega
  · have := digs_size n.toNat
    simp only [ByteArray.size_append]
    have h1 : (⟨#[45]⟩ : ByteArray).size = 1 := rfl
    omega
theorem call_text (s : ByteArray) (n : Int) (hs : s.size ≤ 1000000) : call_Text.f s n = some (if rightB s n = true then textS s n else ⟨#[]⟩) := by
  unfold call_Text.f call_Right.f
  rw [if_pos (by omega), Option.bind_some]
  by_cases hr : rightB s n = true
  · rw [if_pos hr, if_pos hr]
    unfold textS
    by_cases h0 : n = 0
    · rw [if_pos h0, if_pos h0]
    · obtain ⟨_, _, _, h1, h2⟩ := right_parts hr
      obtain ⟨m, rfl⟩ := Int.eq_ofNat_of_zero_le h1
      have hd := digs_size m
      rw [if_neg h0, if_neg h0, if_pos (by omega)]
      unfold strconv_Itoa_69.f
      rw [if_pos (by omega), Option.bind_some, show ((m : Int)).toNat = m from by omega, digs_dec m (by omega)]
      rw [if_pos (by
        simp only [ByteArray.size_append]
        have h1 : (⟨#[45]⟩ : ByteArray).size = 1 := rfl
        omega)]
  · rw [if_neg hr, if_neg hr]
theorem index_app : ∀ (l r : List UInt8), (∀ c ∈ l, c ≠ 45) → Lib.indexByte (l ++ 45 :: r) 45 = l.length
  | [], r, _ => by simp [Lib.indexByte]
  | c :: l, r, h => by
    have ih := index_app l r (fun x hx => h x (List.mem_cons_of_mem _ hx))
    have hc : (c == 45) = false := beq_eq_false_iff_ne.2 (h c (List.mem_cons_self ..))
    simp only [List.cons_append, Lib.indexByte, hc, ih]
    rw [if_neg (by simp), if_neg (by rw [beq_iff_eq]; omega)]
    simp
theorem index_no : ∀ (l : List UInt8), (∀ c ∈ l, c ≠ 45) → Lib.indexByte l 45 = -1
  | [], _ => rfl
  | c :: l, h => by
    have ih := index_no l (fun x hx => h x (List.mem_cons_of_mem _ hx))
    have hc : (c == 45) = false := beq_eq_false_iff_ne.2 (h c (List.mem_cons_self ..))
    simp only [Lib.indexByte, hc, ih]
    rfl
theorem parse_text (s : ByteArray) (n : Int) (hr : rightB s n = true) : parseS (textS s n) = (s, n, 0) := by
  obtain ⟨hl, _, h3, h1, h2⟩ := right_parts hr
  have h45 : ∀ c ∈ s.toList, c ≠ 45 := fun c hc e => by
    have := hl c hc
    subst e
    simp at this
  by_cases h0 : n = 0
  · subst h0
    have ht : textS s 0 = s := by unfold textS; rw [if_pos rfl]
    have hu : upperS s = s := ba_eq (by rw [upper_list]; exact up_fix _ fun c hc => by have := hl c hc; omega)
    rw [ht]
    have hH : cutHas s 45 = false := by unfold cutHas; rw [← Go.ByteArray.toList_eq, index_no _ h45]; rfl
    have hA : cutA s 45 = s := by unfold cutA; rw [hH]; rfl
    unfold parseS
    simp only [hu, hH, hA, hr]
    rfl
  · obtain ⟨m, rfl⟩ := Int.eq_ofNat_of_zero_le h1
    have hm : m < 16 := by omega
    have hd : ∀ c ∈ digs m, c.toNat < 65 := fun c hc => of_decide_eq_true (List.all_eq_true.1 (List.all_eq_true.1 digs_small_all m (List.mem_range.2 hm)) c hc)
    have htl : (textS s (m : Int)).toList = s.toList ++ 45 :: digs m := by
      unfold textS
      rw [if_neg h0, toList_app, toList_app, show ((m : Int)).toNat = m from by omega]
      have e1 : (⟨#[45]⟩ : ByteArray).toList = [45] := by rw [Go.ByteArray.toList_eq]
      have e2 : (⟨(digs m).toArray⟩ : ByteArray).toList = digs m := by rw [Go.ByteArray.toList_eq]
      rw [e1, e2]
      simp
    generalize hT : textS s (m : Int) = t at htl ⊢
    have hu : upperS t = t := ba_eq (by
      rw [upper_list]
      refine up_fix _ fun c hc => ?_
      rw [htl] at hc
      rcases List.mem_append.1 hc with hc | hc
      · have := hl c hc; omega
      · rcases List.mem_cons.1 hc with rfl | hc
        · decide
        · have := hd c hc; omega)
    have hix : Lib.indexByte t.data.toList 45 = (s.toList.length : Int) := by rw [← Go.ByteArray.toList_eq, htl, index_app _ _ h45]
    have hH : cutHas t 45 = true := by unfold cutHas; rw [hix]; exact decide_eq_true (by omega)
    have hI : idxOf t 45 = s.toList.length := by unfold idxOf; rw [hix]; rfl
    have hA : cutA t 45 = s := ba_eq (by
      unfold cutA; rw [if_pos hH, hI, toList_ext, htl, List.drop_zero, List.take_left'] <;> rfl)
    have hB : (cutB t 45).toList = digs m := by
      unfold cutB
      rw [if_pos hH, hI, toList_ext, List.take_of_length_le (by rw [len_eq]; omega), htl]
      have : s.toList ++ 45 :: digs m = (s.toList ++ [45]) ++ digs m := by simp
      rw [this, List.drop_left' (by simp)]
    unfold parseS
    simp only [hu, hH, hA, numOf_digs _ m hm hB, hr]
    rfl
end Go.Proofs.YtpmieapgbdbabaaDoor.Pure
end

section
/- Walks, written by a program of this session (wip/pp): a Go function comes to what the Lean function beside it tells. -/
namespace Go.Proofs.YtpmieapgbdbabaaDoor.QAll
open Go.RowKit Go.Proofs.YtpmieapgbdbabaaDoorW.PrintWords Go.Proofs.YtpmieapgbdbabaaDoorW.PrintLast Go.Proofs.YtpmieapgbdbabaaDoorW.PrintMore
set_option linter.unusedVariables false
set_option linter.unusedSimpArgs false

def squelchref05_split.l0 : Nat → ByteArray → Int → List ByteArray → Int → Option (List ByteArray)
 | 0, _, _, _, _ => none
 | k + 1, x0, x1, x5, x6 => if x6 < (x0.size : Int) then (if 0 ≤ x6 then (if (bt x0 x6) = x1 then (if x5.length < 8796093022208 then (squelchref05_split.l0 k x0 x1 (x5 ++ [(⟨#[]⟩ : ByteArray)]) (wrap64 (x6 + 1))) else (none)) else (if 0 ≤ (wrap64 ((x5.length : Int) - 1)) then (if (wrap64 ((x5.length : Int) - 1)) < (x5.length : Int) then (if x6 ≤ (wrap64 (x6 + 1)) then (if (wrap64 (x6 + 1)) ≤ (x0.size : Int) then (if (rdOf ByteArray.empty x5 (wrap64 ((x5.length : Int) - 1))).size + (x0.extract (x6 : Int).toNat ((wrap64 (x6 + 1)) : Int).toNat).size ≤ 9223372036854775807 then (squelchref05_split.l0 k x0 x1 (x5.set ((wrap64 ((x5.length : Int) - 1)) : Int).toNat ((rdOf ByteArray.empty x5 (wrap64 ((x5.length : Int) - 1))) ++ (x0.extract (x6 : Int).toNat ((wrap64 (x6 + 1)) : Int).toNat))) (wrap64 (x6 + 1))) else (none)) else (none)) else (none)) else (none)) else (none))) else (none)) else (some x5)
def squelchref05_split.f (k : Nat) (a0 : ByteArray) (a1 : Int) : Option (List ByteArray) := squelchref05_split.l0 k a0 a1 (([(⟨#[]⟩ : ByteArray)] : List ByteArray)) 0
end Go.Proofs.YtpmieapgbdbabaaDoor.QAll
end

section
/- Walks, written by a program of this session (wip/pp): a Go function comes to what the Lean function beside it tells. -/
namespace Go.Proofs.YtpmieapgbdbabaaDoor.QAll
open Go.RowKit Go.Proofs.YtpmieapgbdbabaaDoorW.PrintWords Go.Proofs.YtpmieapgbdbabaaDoorW.PrintLast Go.Proofs.YtpmieapgbdbabaaDoorW.PrintMore
set_option linter.unusedVariables false
set_option linter.unusedSimpArgs false

mutual
def squelchref05_Parse.j1 : Nat → ByteArray → Int → Option ((List (S37)) × Int)
 | 0, _, _ => none
 | k + 1, x0, x4 => if x4 = (x0.size : Int) then (some (([] : List (S37)), 2)) else (if 0 ≤ (wrap64 (x4 + 1)) then (if (wrap64 (x4 + 1)) ≤ (x0.size : Int) then ((squelchref05_split.f k (x0.extract ((wrap64 (x4 + 1)) : Int).toNat x0.size) 44).bind fun t626 => (if 0 ≤ x4 then (if x4 ≤ (x0.size : Int) then ((squelchref04_Parse.f k (x0.extract 0 (x4 : Int).toNat)).bind fun bt629 => (if 0 < (t626.length : Int) then ((squelchref04_Parse.f k (rdOf ByteArray.empty t626 0)).bind fun bt634 => (if bt629.2.2 = true then (squelchref05_Parse.j2 k t626 (!bt634.2.2) bt629.1 bt629.2.1 bt634.1 bt634.2.1) else (squelchref05_Parse.j2 k t626 true bt629.1 bt629.2.1 bt634.1 bt634.2.1))) else (none))) else (none)) else (none))) else (none)) else (none))
def squelchref05_Parse.j2 : Nat → List ByteArray → Bool → ByteArray → Int → ByteArray → Int → Option ((List (S37)) × Int)
 | 0, _, _, _, _, _, _ => none
 | k + 1, x5, x59, x633000, x633001, x638000, x638001 => if x59 = true then (some (([] : List (S37)), 12)) else (squelchref05_Parse.l1 k x5 0 1 (([(⟨(⟨x638000, x638001⟩ : S23), true⟩ : S37), (⟨(⟨x633000, x633001⟩ : S23), false⟩ : S37)] : List (S37))))
def squelchref05_Parse.l1 : Nat → List ByteArray → Int → Int → List (S37) → Option ((List (S37)) × Int)
 | 0, _, _, _, _ => none
 | k + 1, x5, x11, x12, x642000 => if x12 < (x5.length : Int) then (if 0 ≤ x12 then (if x12 = 9 then (some (([] : List (S37)), 11)) else (if ((rdOf ByteArray.empty x5 x12).size : Int) > 0 then (if 0 ≤ (wrap64 (((rdOf ByteArray.empty x5 x12).size : Int) - 1)) then (if (wrap64 (((rdOf ByteArray.empty x5 x12).size : Int) - 1)) < ((rdOf ByteArray.empty x5 x12).size : Int) then (squelchref05_Parse.j4 k x5 x11 x12 (rdOf ByteArray.empty x5 x12) ((bt (rdOf ByteArray.empty x5 x12) (wrap64 (((rdOf ByteArray.empty x5 x12).size : Int) - 1))) == 42) x642000) else (none)) else (none)) else (squelchref05_Parse.j4 k x5 x11 x12 (rdOf ByteArray.empty x5 x12) false x642000))) else (none)) else (if x11 > 1 then (some (([] : List (S37)), 2)) else (some (x642000, 0)))
def squelchref05_Parse.j4 : Nat → List ByteArray → Int → Int → ByteArray → Bool → List (S37) → Option ((List (S37)) × Int)
 | 0, _, _, _, _, _, _ => none
 | k + 1, x5, x11, x12, x13, x14, x642000 => if x14 = true then (if 0 ≤ (wrap64 ((x13.size : Int) - 1)) then (if (wrap64 ((x13.size : Int) - 1)) ≤ (x13.size : Int) then (squelchref05_Parse.j5 k x5 x11 x12 (x13.extract 0 ((wrap64 ((x13.size : Int) - 1)) : Int).toNat) x14 x642000) else (none)) else (none)) else (squelchref05_Parse.j5 k x5 x11 x12 x13 x14 x642000)
def squelchref05_Parse.j5 : Nat → List ByteArray → Int → Int → ByteArray → Bool → List (S37) → Option ((List (S37)) × Int)
 | 0, _, _, _, _, _, _ => none
 | k + 1, x5, x11, x12, x13, x14, x642000 => (squelchref04_Parse.f k x13).bind fun bt643 => (if bt643.2.2 = true then (if x642000.length < 4398046511104 then ((some (x642000 ++ [(⟨(⟨bt643.1, bt643.2.1⟩ : S23), false⟩ : S37)] : List (S37))).bind fun y647 => (if x14 = true then (squelchref05_Parse.l2 k x5 (wrap64 (x11 + 1)) x12 2 y647) else (squelchref05_Parse.l1 k x5 x11 (wrap64 (x12 + 1)) y647))) else (none)) else (some (([] : List (S37)), 12)))
def squelchref05_Parse.l2 : Nat → List ByteArray → Int → Int → Int → List (S37) → Option ((List (S37)) × Int)
 | 0, _, _, _, _, _ => none
 | k + 1, x5, x11, x12, x17, x642000 => if x17 < (x642000.length : Int) then (if 0 ≤ x17 then (squelchref05_Parse.l2 k x5 x11 x12 (wrap64 (x17 + 1)) (x642000.set (x17 : Int).toNat (⟨(⟨(rd_T37 x642000 x17).f0.f0, (rd_T37 x642000 x17).f0.f1⟩ : S23), true⟩ : S37))) else (none)) else (squelchref05_Parse.l1 k x5 x11 (wrap64 (x12 + 1)) x642000)
def squelchref05_Parse.l0 : Nat → ByteArray → Int → Option ((List (S37)) × Int)
 | 0, _, _ => none
 | k + 1, x0, x4 => if x4 < (x0.size : Int) then (if 0 ≤ x4 then (if (bt x0 x4) = 62 then (squelchref05_Parse.j1 k x0 x4) else (squelchref05_Parse.l0 k x0 (wrap64 (x4 + 1)))) else (none)) else (squelchref05_Parse.j1 k x0 x4)
end
def squelchref05_Parse.f (k : Nat) (a0 : ByteArray) : Option ((List (S37)) × Int) := squelchref05_Parse.l0 k a0 0
end Go.Proofs.YtpmieapgbdbabaaDoor.QAll
end

section
/- A text's words, parted by one byte: what strings.Split tells and what the reference tells are the same; over plain lists. -/
set_option linter.unusedVariables false
set_option linter.unusedSimpArgs false
namespace Go.Proofs.YtpmieapgbdbabaaDoor.Pure
open Go.RowKit Go.Proofs.YtpmieapgbdbabaaDoor.QAll Go.Proofs.YtpmieapgbdbabaaDoorW.PrintWords

/-- The byte ahead of the first word. -/
def onHead (p : List UInt8) : List (List UInt8) → List (List UInt8)
  | [] => [p]
  | x :: xs => (p ++ x) :: xs
def splitL (c : UInt8) : List UInt8 → List (List UInt8)
  | [] => [[]]
  | b :: r => if b = c then [] :: splitL c r else onHead [b] (splitL c r)
theorem splitL_ne (c : UInt8) : ∀ l, splitL c l ≠ []
  | [] => by simp [splitL]
  | b :: r => by
    unfold splitL
    split
    · simp
    · cases h : splitL c r <;> simp [onHead]
theorem splitK_eq (c : UInt8) : ∀ l : List UInt8, Lib.splitK [c] 0 (Lib.count l [c]) l = splitL c l
  | [] => by
    rw [Lib.count_miss (by simp [Lib.index])]
    rfl
  | b :: l => by
    have ih := splitK_eq c l
    by_cases h : b = c
    · subst h
      have hix : Lib.index (b :: l) [b] = 0 := by rw [Lib.index]; simp [List.isPrefixOf]
      rw [Lib.count_cons_eq, Nat.add_comm, Lib.splitK, hix, if_neg (by decide), splitL, if_pos rfl, ← ih]
      rfl
    · have hp : ([c] : List UInt8).isPrefixOf (b :: l) = false := by simp [List.isPrefixOf, Ne.symm h]
      have hix : Lib.index (b :: l) [c] = if Lib.index l [c] == -1 then -1 else Lib.index l [c] + 1 := by rw [Lib.index, hp]; simp
      rw [Lib.count_cons_ne b c l h, splitL, if_neg h]
      by_cases hm : Lib.index l [c] = -1
      · rw [Lib.count_miss hm] at ih ⊢
        rw [← ih]
        rfl
      · have hge := Lib.index_ge l [c]
        obtain ⟨j, hj⟩ : ∃ j : Nat, Lib.index l [c] = j := ⟨(Lib.index l [c]).toNat, by omega⟩
        have hc := Lib.count_hit (by simp : ([c] : List UInt8) ≠ []) hj
        obtain ⟨k, hk⟩ : ∃ k, Lib.count l [c] = k + 1 := ⟨_, by rw [hc, Nat.add_comm]⟩
        rw [hk] at ih ⊢
        rw [Lib.splitK, hj, if_neg (by first | (simp; done) | (simp; omega))] at ih
        rw [Lib.splitK, hix, hj, if_neg (by first | (simp; done) | (simp; omega)), if_neg (by first | (simp; done) | (simp; omega)), ← ih]
        have e1 : ((j : Int) + 1).toNat = j + 1 := by omega
        have e2 : ((j : Int)).toNat = j := by omega
        rw [e1, e2]
        simp [onHead]
theorem split_list (s : ByteArray) (c : UInt8) : (splitS s ⟨#[c]⟩).map (·.toList) = splitL c s.toList := by
  have h := Lib.splitB_data (⟨#[c]⟩ : ByteArray) 0 (Lib.countB s ⟨#[c]⟩) s
  have e : (fun x : ByteArray => x.data.toList) = (fun x : ByteArray => x.toList) := by funext x; rw [Go.ByteArray.toList_eq]
  rw [e] at h
  unfold splitS
  rw [h, Go.ByteArray.toList_eq]
  exact splitK_eq c s.data.toList
theorem onHead_app (p q : List UInt8) : ∀ l, l ≠ [] → onHead p (onHead q l) = onHead (p ++ q) l
  | [], h => absurd rfl h
  | x :: xs, _ => by simp [onHead]
theorem rdOf_last (done : List ByteArray) (cur : ByteArray) : rdOf ByteArray.empty (done ++ [cur]) ((done.length : Nat) : Int) = cur := by
  unfold rdOf
  rw [Int.toNat_natCast, List.getD_eq_getElem?_getD]
  simp
theorem ref_split_at (s : ByteArray) (hs : s.size ≤ 1000000) (c : UInt8) : ∀ (d i K : Nat) (done : List ByteArray) (cur : ByteArray), s.size - i ≤ d → d + 1 ≤ K → i ≤ s.size → done.length ≤ i → cur.size ≤ i →
    ∃ R, squelchref05_split.l0 K s (c.toNat : Int) (done ++ [cur]) (i : Int) = some R ∧ R.map (·.toList) = done.map (·.toList) ++ onHead cur.toList (splitL c (s.toList.drop i))
  | d, i, 0, _, _, _, hk, _, _, _ => absurd hk (by omega)
  | d, i, K + 1, done, cur, hd, hk, hi, hdn, hcu => by
    rw [squelchref05_split.l0]
    by_cases h : i < s.size
    · obtain ⟨d', rfl⟩ : ∃ d', d = d' + 1 := ⟨d - 1, by omega⟩
      obtain ⟨b, r, e1, e2, e3⟩ := bt_at s i h
      have hw : wrap64 ((i : Int) + 1) = ((i + 1 : Nat) : Int) := wrap_succ i (by omega)
      have hl : ((done ++ [cur]).length : Int) = (done.length : Int) + 1 := by simp
      rw [if_pos (by omega), if_pos (by omega), e3, hw, hl, e1, splitL]
      by_cases hb : b = c
      · rw [if_pos (by rw [hb]), if_pos (by simp; omega), if_pos hb]
        obtain ⟨R, hR, hM⟩ := ref_split_at s hs c d' (i + 1) K (done ++ [cur]) ⟨#[]⟩ (by omega) (by omega) (by omega) (by simp; omega) (by show 0 ≤ _; omega)
        refine ⟨R, hR, ?_⟩
        rw [hM, e2]
        have h0 : (⟨#[]⟩ : ByteArray).toList = [] := by rw [Go.ByteArray.toList_eq]
        rw [h0]
        cases hr : splitL c r with
        | nil => exact absurd hr (splitL_ne c r)
        | cons x xs => simp [onHead]
      · have hbn : ¬ ((b.toNat : Int) = (c.toNat : Int)) := fun e => hb (UInt8.toNat_inj.1 (by omega))
        have hw2 : wrap64 ((done.length : Int) + 1 - 1) = ((done.length : Nat) : Int) := by unfold wrap64; omega
        have hx : (s.extract (i : Int).toNat (((i + 1 : Nat) : Int)).toNat).toList = [b] := by
          rw [Int.toNat_natCast, Int.toNat_natCast, toList_ext]
          rw [List.drop_take, e1]
          simp
        have hxs : (s.extract (i : Int).toNat (((i + 1 : Nat) : Int)).toNat).size = 1 := by rw [← len_eq, hx]; rfl
        rw [if_neg hbn, if_neg hb, hw2, if_pos (by omega), if_pos (by omega), if_pos (by omega), if_pos (by omega), rdOf_last, if_pos (by rw [hxs]; omega)]
        have hset : (done ++ [cur]).set (((done.length : Nat) : Int)).toNat (cur ++ s.extract (i : Int).toNat (((i + 1 : Nat) : Int)).toNat) = done ++ [cur ++ s.extract (i : Int).toNat (((i + 1 : Nat) : Int)).toNat] := by
          rw [Int.toNat_natCast]
          simp
        rw [hset]
        obtain ⟨R, hR, hM⟩ := ref_split_at s hs c d' (i + 1) K done (cur ++ s.extract (i : Int).toNat (((i + 1 : Nat) : Int)).toNat) (by omega) (by omega) (by omega) (by omega) (by rw [ByteArray.size_append, hxs]; omega)
        refine ⟨R, hR, ?_⟩
        rw [hM, e2, toList_app, hx, onHead_app _ _ _ (splitL_ne c r)]
    · rw [if_neg (by omega)]
      refine ⟨_, rfl, ?_⟩
      rw [drop_all s i (by omega)]
      simp [splitL, onHead]
theorem map_inj : ∀ (a b : List ByteArray), a.map (·.toList) = b.map (·.toList) → a = b
  | [], [], _ => rfl
  | [], _ :: _, h => by simp at h
  | _ :: _, [], h => by simp at h
  | x :: a, y :: b, h => by
    simp only [List.map_cons, List.cons.injEq] at h
    rw [ba_eq h.1, map_inj a b h.2]
theorem ref_split (s : ByteArray) (hs : s.size ≤ 1000000) (c : UInt8) (K : Nat) (hK : s.size + 1 ≤ K) : squelchref05_split.f K s (c.toNat : Int) = some (splitS s ⟨#[c]⟩) := by
  obtain ⟨R, hR, hM⟩ := ref_split_at s hs c s.size 0 K [] ⟨#[]⟩ (by omega) hK (by omega) (by simp) (by show 0 ≤ _; omega)
  unfold squelchref05_split.f
  rw [show R = splitS s ⟨#[c]⟩ from map_inj _ _ (by
    rw [hM, split_list]
    have h0 : (⟨#[]⟩ : ByteArray).toList = [] := by rw [Go.ByteArray.toList_eq]
    rw [h0, List.drop_zero]
    cases hr : splitL c s.toList with
    | nil => exact absurd hr (splitL_ne c _)
    | cons x xs => simp [onHead])] at hR
  exact hR
/-- No word is longer than the text; there are no more words than bytes, and one. -/
theorem splitL_len (c : UInt8) : ∀ l : List UInt8, (splitL c l).length ≤ l.length + 1 ∧ ∀ x ∈ splitL c l, x.length ≤ l.length
  | [] => by simp [splitL]
  | b :: r => by
    obtain ⟨h1, h2⟩ := splitL_len c r
    unfold splitL
    split
    · refine ⟨by simp; omega, fun x hx => ?_⟩
      rcases List.mem_cons.1 hx with rfl | hx
      · simp
      · have := h2 x hx; simp; omega
    · cases hr : splitL c r with
      | nil => exact absurd hr (splitL_ne c r)
      | cons y ys =>
        rw [hr] at h1 h2
        refine ⟨by simp [onHead] at h1 ⊢; omega, fun x hx => ?_⟩
        simp only [onHead, List.mem_cons] at hx
        rcases hx with rfl | hx
        · have := h2 y (by simp); simp; omega
        · have := h2 x (by simp [hx]); simp; omega
theorem split_sizes (s : ByteArray) (c : UInt8) : (splitS s ⟨#[c]⟩) ≠ [] ∧ (splitS s ⟨#[c]⟩).length ≤ s.size + 1 ∧ ∀ x ∈ splitS s ⟨#[c]⟩, x.size ≤ s.size := by
  have h := split_list s c
  obtain ⟨h1, h2⟩ := splitL_len c s.toList
  rw [← h, List.length_map, len_eq] at h1
  refine ⟨fun e => splitL_ne c s.toList (by rw [← h, e]; rfl), h1, fun x hx => ?_⟩
  have := h2 x.toList (by rw [← h]; exact List.mem_map_of_mem hx)
  rw [len_eq, len_eq] at this
  exact this
end Go.Proofs.YtpmieapgbdbabaaDoor.Pure
end

section
/- Walks, written by a program of this session (wip/pp): a Go function comes to what the Lean function beside it tells. -/
namespace Go.Proofs.YtpmieapgbdbabaaDoor.QAll
open Go.RowKit Go.Proofs.YtpmieapgbdbabaaDoorW.PrintWords Go.Proofs.YtpmieapgbdbabaaDoorW.PrintLast Go.Proofs.YtpmieapgbdbabaaDoorW.PrintMore
set_option linter.unusedVariables false
set_option linter.unusedSimpArgs false

def squelchref04_Put.l0 : Nat → Bool → Bool → List Int → Int → ByteArray → Int → Option (ByteArray)
 | 0, _, _, _, _, _, _ => none
 | k + 1, x1, x2, x7, x8, x275000, x275001 => if x8 < (x275000.size : Int) then (if 0 ≤ x8 then (if x8 < (x7.length : Int) then (squelchref04_Put.l0 k x1 x2 (x7.set (x8 : Int).toNat ((2 * (bt x275000 x8)) % 256)) (wrap64 (x8 + 1)) x275000 x275001) else (none)) else (none)) else (if x1 = true then (if 6 < (x7.length : Int) then ((some (x7.set (6 : Int).toNat (((rd x7 6) + 128) % 256) : List Int)).bind fun y280 => (if x2 = true then (some (strOfNums (y280.set (6 : Int).toNat (((rd y280 6) + 1) % 256)))) else (some (strOfNums y280)))) else (none)) else (if x2 = true then (if 6 < (x7.length : Int) then (some (strOfNums (x7.set (6 : Int).toNat (((rd x7 6) + 1) % 256)))) else (none)) else (some (strOfNums x7))))
def squelchref04_Put.f (k : Nat) (a0_0 : ByteArray) (a0_1 : Int) (a1 : Bool) (a2 : Bool) : Option (ByteArray) := squelchref04_Put.l0 k a1 a2 (([64, 64, 64, 64, 64, 64, (wrap64 (96 + (wrap64 (2 * a0_1)))) % 256] : List Int)) 0 a0_0 a0_1
end Go.Proofs.YtpmieapgbdbabaaDoor.QAll
end

section
/- Walks, written by a program of this session (wip/pp): a Go function comes to what the Lean function beside it tells. -/
namespace Go.Proofs.YtpmieapgbdbabaaDoor.QAll
open Go.RowKit Go.Proofs.YtpmieapgbdbabaaDoorW.PrintWords Go.Proofs.YtpmieapgbdbabaaDoorW.PrintLast Go.Proofs.YtpmieapgbdbabaaDoorW.PrintMore
set_option linter.unusedVariables false
set_option linter.unusedSimpArgs false

def squelchref04_Get.l0 : Nat → ByteArray → Int → ByteArray → Int → Option (ByteArray × Int × Bool × Bool × Bool)
 | 0, _, _, _, _ => none
 | k + 1, x0, x7, x287000, x287001 => if x7 < 6 then (if 0 ≤ x7 then (if x7 < (x0.size : Int) then (if (bt x0 x7) = 64 then (squelchref04_Get.l0 k x0 (wrap64 (x7 + 1)) x287000 x287001) else ((some (([(Int.tdiv (bt x0 x7) 2) % 256] : List Int) : List Int)).bind fun y287 => (if x287000.size + (strOfNums y287).size ≤ 9223372036854775807 then (squelchref04_Get.l0 k x0 (wrap64 (x7 + 1)) (x287000 ++ (strOfNums y287)) x287001) else (none)))) else (none)) else (none)) else (if 6 < (x0.size : Int) then ((squelchref04_Right.f k x287000 x287001).bind fun t290 => (if t290 = true then ((squelchref04_Put.f k x287000 x287001 (decide ((bt x0 6) ≥ 128)) ((Int.tmod (bt x0 6) 2) == 1)).bind fun t291 => (if t291.toList = x0.toList then (some (x287000, x287001, decide ((bt x0 6) ≥ 128), ((Int.tmod (bt x0 6) 2) == 1), true)) else (some ((⟨#[]⟩ : ByteArray), 0, false, false, false)))) else (some ((⟨#[]⟩ : ByteArray), 0, false, false, false)))) else (none))
def squelchref04_Get.f (k : Nat) (a0 : ByteArray) : Option (ByteArray × Int × Bool × Bool × Bool) := if (a0.size : Int) = 7 then (if 6 < (a0.size : Int) then (squelchref04_Get.l0 k a0 0 (⟨#[]⟩ : ByteArray) (Int.tmod (wrap64 (Int.tdiv (wrap64 (bt a0 6)) 2)) 16)) else (none)) else (some ((⟨#[]⟩ : ByteArray), 0, false, false, false))
end Go.Proofs.YtpmieapgbdbabaaDoor.QAll
end

section
/- Walks, written by a program of this session (wip/pp): a Go function comes to what the Lean function beside it tells. -/
namespace Go.Proofs.YtpmieapgbdbabaaDoor.QAll
open Go.RowKit Go.Proofs.YtpmieapgbdbabaaDoorW.PrintWords Go.Proofs.YtpmieapgbdbabaaDoorW.PrintLast Go.Proofs.YtpmieapgbdbabaaDoorW.PrintMore
set_option linter.unusedVariables false
set_option linter.unusedSimpArgs false

def call_bit.f (a0 : Bool) (a1 : Int) : Option (Int) := if a0 = true then (some a1) else (some 0)
end Go.Proofs.YtpmieapgbdbabaaDoor.QAll
end

section
/- call.Put, walked by hand: the seven bytes of a right call, or none and ErrCall, for every call. -/
set_option linter.unusedVariables false
set_option linter.unusedSimpArgs false
namespace Go.Proofs.YtpmieapgbdbabaaDoor.QAll
open Go.RowKit Go.Proofs.YtpmieapgbdbabaaDoorW.PrintWords Go.Proofs.YtpmieapgbdbabaaDoorW.PrintLast Go.Proofs.YtpmieapgbdbabaaDoorW.PrintMore

/-- The i-th letter's byte. -/
def putAt (s : ByteArray) (i : Nat) : Int := if i < s.size then bt s i * 2 else 64
/-- The last byte. -/
def putEnd (n : Int) (mark last : Bool) : Int := (if mark = true then 128 else 0) + 96 + 2 * n + (if last = true then 1 else 0)
def putL (s : ByteArray) (n : Int) (mark last : Bool) : List Int := [putAt s 0, putAt s 1, putAt s 2, putAt s 3, putAt s 4, putAt s 5, putEnd n mark last]
def call_Put.f (a0_0 : ByteArray) (a0_1 : Int) (a1 a2 : Bool) : Option (ByteArray × Int) :=
  if a0_0.size ≤ 9223372036854775807 then (if rightB a0_0 a0_1 = true then some (strOfNums (putL a0_0 a0_1 a1 a2), 0) else some (⟨#[]⟩, 12)) else none

/-- Behind k rounds: the array in block B. -/
def PutAt (s : ByteArray) (B k : Nat) (w : World) : Prop := ∃ cur, w.heap[B]? = some (.cells cur 128 (0, 0)) ∧ cur.size = 7 ∧ ∀ j : Nat, j < k → cur[j]? = some (.int .u8 (putAt s j))
theorem PutAt.cell {s : ByteArray} {B k : Nat} {w : World} (h : PutAt s B k w) (j : Nat) (hj : j < 7) : ∃ v, w.cell? ⟨B, j, none⟩ = some v := by
  obtain ⟨cur, hb, hm, hc⟩ := h
  simp only [World.cell?, hb]
  exact ⟨cur[j]'(by omega), Array.getElem?_eq_getElem (by omega)⟩
theorem PutAt.frozen {s : ByteArray} {B k : Nat} {w : World} (h : PutAt s B k w) (j : Nat) : w.frozen? ⟨B, j, none⟩ = false := by
  obtain ⟨cur, hb, hm, hc⟩ := h
  simp [World.frozen?, hb]
theorem PutAt.set {s : ByteArray} {B k : Nat} {w : World} (h : PutAt s B k w) (x : Value) : PutAt s B k (w.setCell ⟨B, k, none⟩ x) := by
  obtain ⟨cur, hb, hm, hc⟩ := h
  refine ⟨cur.setIfInBounds k x, ?_, by simpa using hm, fun j hj => ?_⟩
  · simp [World.setCell, Array.getElem?_modify, hb]
  · rw [Array.getElem?_setIfInBounds, if_neg (by omega), hc j hj]
end Go.Proofs.YtpmieapgbdbabaaDoor.QAll
end

section
/- call.Get, walked by hand: the call of seven bytes, its marks, or none, for every text. -/
set_option linter.unusedVariables false
set_option linter.unusedSimpArgs false
namespace Go.Proofs.YtpmieapgbdbabaaDoor.QAll
open Go.RowKit Go.Proofs.YtpmieapgbdbabaaDoorW.PrintWords Go.Proofs.YtpmieapgbdbabaaDoorW.PrintLast Go.Proofs.YtpmieapgbdbabaaDoorW.PrintMore

def halfL (s : ByteArray) (k : Nat) : List Int := (List.range k).map fun j : Nat => bt s (j : Int) / 2
def getBase (s : ByteArray) : ByteArray := ⟨(Lib.trimRightB (strOfNums (halfL s 6)).data.toList 32).toArray⟩
/-- What Get tells. -/
def getS (s : ByteArray) : ByteArray × Int × Bool × Bool × Int :=
  if s.size < 7 then (⟨#[]⟩, 0, false, false, 4) else if 7 < s.size then (⟨#[]⟩, 0, false, false, 5)
  else if rightB (getBase s) (bt s 6 / 2 % 16) = true ∧ strOfNums (putL (getBase s) (bt s 6 / 2 % 16) (decide (128 ≤ bt s 6)) (decide (bt s 6 % 2 = 1))) = s
    then (getBase s, bt s 6 / 2 % 16, decide (128 ≤ bt s 6), decide (bt s 6 % 2 = 1), 0)
  else (⟨#[]⟩, 0, false, false, 2)
def call_Get.f (a0 : ByteArray) : Option (ByteArray × Int × Bool × Bool × Int) := if a0.size ≤ 9223372036854775807 then some (getS a0) else none

end Go.Proofs.YtpmieapgbdbabaaDoor.QAll
end

section
/- A call's seven bytes, as the reference says them, and the call that is read of seven bytes; over plain strings and numbers. -/
set_option linter.unusedVariables false
namespace Go.Proofs.YtpmieapgbdbabaaDoor.Pure
open Go.RowKit Go.Proofs.YtpmieapgbdbabaaDoor.QAll Go.Proofs.YtpmieapgbdbabaaDoorW.PrintWords Go.Proofs.YtpmieapgbdbabaaDoorW.PrintLast

end Go.Proofs.YtpmieapgbdbabaaDoor.Pure
end

section
/- path.Get, walked by hand: the path with whose bytes a text begins, or none. -/
set_option linter.unusedVariables false
set_option linter.unusedSimpArgs false
namespace Go.Proofs.YtpmieapgbdbabaaDoor.QAll
open Go.RowKit Go.Proofs.YtpmieapgbdbabaaDoorW.PrintWords Go.Proofs.YtpmieapgbdbabaaDoorW.PrintLast Go.Proofs.YtpmieapgbdbabaaDoorW.PrintMore

/-- The entry that begins at the k-th seven bytes. -/
def pgT (s : ByteArray) (k : Nat) : ByteArray := s.extract (7 * k) (7 * k + 7)
def pgE (s : ByteArray) (k : Nat) : S93 := ⟨⟨(getS (pgT s k)).1, (getS (pgT s k)).2.1⟩, (getS (pgT s k)).2.2.1⟩
/-- What is told behind k entries, which are l. -/
def pgFrom (s : ByteArray) : Nat → Nat → List S93 → Nat × List S93 × Int
  | 0, _, _ => (0, [], 11)
  | f + 1, k, l =>
    if s.size < 7 * k + 7 then (0, [], 4)
    else if (getS (pgT s k)).2.2.2.2 ≠ 0 then (0, [], 2)
    else if k = 10 then (0, [], 11)
    else if (getS (pgT s k)).2.2.2.1 = false then pgFrom s f (k + 1) (l ++ [pgE s k])
    else if k = 0 then (0, [], 2)
    else if ordB ((l ++ [pgE s k]).drop 2) = true then (7 * k + 7, l ++ [pgE s k], 0) else (0, [], 11)
def pgS (s : ByteArray) : Nat × List S93 × Int := pgFrom s 11 0 []
def path_Get.f (a0 : ByteArray) : Option (ByteArray × Int × ByteArray × Int × Bool × Bool × List S93 × Int × Int) :=
  if a0.size ≤ 1000000 then some ((rd_T93 (pgS a0).2.1 0).f0.f0, (rd_T93 (pgS a0).2.1 0).f0.f1, (rd_T93 (pgS a0).2.1 1).f0.f0, (rd_T93 (pgS a0).2.1 1).f0.f1, (rd_T93 (pgS a0).2.1 0).f1, (rd_T93 (pgS a0).2.1 1).f1, (pgS a0).2.1.drop 2, ((pgS a0).1 : Int), (pgS a0).2.2) else none
end Go.Proofs.YtpmieapgbdbabaaDoor.QAll
end

section
/- Walks, written by a program of this session (wip/pp): a Go function comes to what the Lean function beside it tells. -/
namespace Go.Proofs.YtpmieapgbdbabaaDoor.QAll
open Go.RowKit Go.Proofs.YtpmieapgbdbabaaDoorW.PrintWords Go.Proofs.YtpmieapgbdbabaaDoorW.PrintLast Go.Proofs.YtpmieapgbdbabaaDoorW.PrintMore
set_option linter.unusedVariables false
set_option linter.unusedSimpArgs false

def squelchref05_ordered.l0 : Nat → List (S37) → Int → Option (Bool)
 | 0, _, _ => none
 | k + 1, x0, x3 => if x3 < (x0.length : Int) then (if 0 ≤ x3 then (if (rd_T37 x0 x3).f1 = true then (if 0 ≤ (wrap64 (x3 - 1)) then (if (wrap64 (x3 - 1)) < (x0.length : Int) then (if ((rd_T37 x0 (wrap64 (x3 - 1))).f1 = true) then (squelchref05_ordered.l0 k x0 (wrap64 (x3 + 1))) else (some false)) else (none)) else (none)) else (squelchref05_ordered.l0 k x0 (wrap64 (x3 + 1)))) else (none)) else (some true)
def squelchref05_ordered.f (k : Nat) (l0 : List (S37)) : Option (Bool) := squelchref05_ordered.l0 k l0 3
end Go.Proofs.YtpmieapgbdbabaaDoor.QAll
end

section
/- Walks, written by a program of this session (wip/pp): a Go function comes to what the Lean function beside it tells. -/
namespace Go.Proofs.YtpmieapgbdbabaaDoor.QAll
open Go.RowKit Go.Proofs.YtpmieapgbdbabaaDoorW.PrintWords Go.Proofs.YtpmieapgbdbabaaDoorW.PrintLast Go.Proofs.YtpmieapgbdbabaaDoorW.PrintMore
set_option linter.unusedVariables false
set_option linter.unusedSimpArgs false

def squelchref05_Get.l0 : Nat → ByteArray → Int → List (S37) → Option ((List (S37)) × Int × Int)
 | 0, _, _, _ => none
 | k + 1, x0, x6, x296000 => if (wrap64 (x6 + 7)) > (x0.size : Int) then (some (([] : List (S37)), 0, 4)) else (if 0 ≤ x6 then (if x6 ≤ (wrap64 (x6 + 7)) then (if (wrap64 (x6 + 7)) ≤ (x0.size : Int) then ((squelchref04_Get.f k (x0.extract (x6 : Int).toNat ((wrap64 (x6 + 7)) : Int).toNat)).bind fun bt296 => (if bt296.2.2.2.2 = true then (if (x296000.length : Int) = 10 then (some (([] : List (S37)), 0, 11)) else (if x296000.length < 4398046511104 then ((some (x296000 ++ [(⟨(⟨bt296.1, bt296.2.1⟩ : S23), bt296.2.2.1⟩ : S37)] : List (S37))).bind fun y302 => (if bt296.2.2.2.1 = true then (if (y302.length : Int) = 1 then (some (([] : List (S37)), 0, 2)) else ((squelchref05_ordered.f k y302).bind fun t305 => (if t305 = true then (some (y302, wrap64 (x6 + 7), 0)) else (some (([] : List (S37)), 0, 11))))) else (squelchref05_Get.l0 k x0 (wrap64 (x6 + 7)) y302))) else (none))) else (some (([] : List (S37)), 0, 2)))) else (none)) else (none)) else (none))
def squelchref05_Get.f (k : Nat) (a0 : ByteArray) : Option ((List (S37)) × Int × Int) := squelchref05_Get.l0 k a0 0 ([] : List (S37))
end Go.Proofs.YtpmieapgbdbabaaDoor.QAll
end

section
/- What the reference of paths tells, over plain lists: the plain form of a path, whether two are alike, the order of the marks, the path of some bytes. -/
set_option linter.unusedVariables false
set_option linter.unusedSimpArgs false
namespace Go.Proofs.YtpmieapgbdbabaaDoor.Pure
open Go.RowKit Go.Proofs.YtpmieapgbdbabaaDoor.QAll Go.Proofs.YtpmieapgbdbabaaDoorW.PrintWords

def mk37 (d : S93) : S37 := ⟨d.f0, d.f1⟩
theorem w64 (x : Int) (h0 : 0 ≤ x) (h1 : x ≤ 4611686018427387904) : wrap64 x = x := by unfold wrap64; omega
theorem plain_at (l : List S93) (hl : l.length ≤ 1000000) : ∀ (d i k : Nat) (acc : List S37), l.length - i ≤ d → d + 1 ≤ k → i ≤ l.length → acc.length ≤ 2000000 + i →
    squelchlaw05_Plain.l0 k l (l.length : Int) (i : Int) acc = some (acc ++ (l.drop i).map mk37)
  | d, i, 0, _, _, hk, _, _ => absurd hk (by omega)
  | d, i, k + 1, acc, hd, hk, hi, ha => by
    rw [squelchlaw05_Plain.l0]
    by_cases h : i < l.length
    · obtain ⟨d', rfl⟩ : ∃ d', d = d' + 1 := ⟨d - 1, by omega⟩
      rw [if_pos (by omega), if_pos (by omega), if_pos (by omega), if_pos (by omega), show wrap64 ((i : Int) + 1) = ((i + 1 : Nat) : Int) by rw [w64 _ (by omega) (by omega)]; omega,
        plain_at l hl d' (i + 1) k _ (by omega) (by omega) (by omega) (by simp; omega), drop_T93 l i h]
      simp [mk37]
    · rw [if_neg (by omega), List.drop_eq_nil_of_le (by omega)]
      simp
theorem plain_f (a0 : ByteArray) (a1 : Int) (a2 : ByteArray) (a3 : Int) (a4 a5 : Bool) (l : List S93) (hl : l.length ≤ 1000000) (k : Nat) (hk : l.length + 1 ≤ k) :
    squelchlaw05_Plain.f k a0 a1 a2 a3 a4 a5 l = some ((⟨⟨a0, a1⟩, a4⟩ : S37) :: (⟨⟨a2, a3⟩, a5⟩ : S37) :: l.map mk37) := by
  unfold squelchlaw05_Plain.f
  have := plain_at l hl l.length 0 k [(⟨(⟨a0, a1⟩ : S23), a4⟩ : S37), (⟨(⟨a2, a3⟩ : S23), a5⟩ : S37)] (by omega) hk (by omega) (by simp)
  rw [List.drop_zero] at this
  exact this
theorem same_at (l : List S37) (hl : l.length ≤ 2000000) : ∀ (d i k : Nat), l.length - i ≤ d → d + 1 ≤ k → i ≤ l.length → squelchref05_Same.l0 k (i : Int) l l = some true
  | d, i, 0, _, hk, _ => absurd hk (by omega)
  | d, i, k + 1, hd, hk, hi => by
    rw [squelchref05_Same.l0]
    by_cases h : i < l.length
    · obtain ⟨d', rfl⟩ : ∃ d', d = d' + 1 := ⟨d - 1, by omega⟩
      rw [if_pos (by omega), if_pos (by omega), if_pos (by omega), show wrap64 ((i : Int) + 1) = ((i + 1 : Nat) : Int) by rw [w64 _ (by omega) (by omega)]; omega, if_neg (by simp)]
      exact same_at l hl d' (i + 1) k (by omega) (by omega) (by omega)
    · rw [if_neg (by omega)]
theorem same_f (l : List S37) (hl : l.length ≤ 2000000) (k : Nat) (hk : l.length + 1 ≤ k) : squelchref05_Same.f k l l = some true := by
  unfold squelchref05_Same.f
  rw [if_pos rfl]
  exact same_at l hl l.length 0 k (by omega) hk (by omega)
theorem rd37 (a b : S37) (D : List S93) (j : Nat) (hj : j < D.length) : rd_T37 (a :: b :: D.map mk37) ((j + 2 : Nat) : Int) = mk37 (rd_T93 D (j : Int)) := by
  unfold rd_T37 rd_T93
  rw [Int.toNat_natCast, Int.toNat_natCast, List.getD_eq_getElem?_getD, List.getD_eq_getElem?_getD]
  simp [hj]
end Go.Proofs.YtpmieapgbdbabaaDoor.Pure
end

section
/- The path of a word: what path.Parse tells, and what the reference tells, are the same; over plain strings and lists. -/
set_option linter.unusedVariables false
set_option linter.unusedSimpArgs false
namespace Go.Proofs.YtpmieapgbdbabaaDoor.Pure
open Go.RowKit Go.Proofs.YtpmieapgbdbabaaDoor.QAll Go.Proofs.YtpmieapgbdbabaaDoorW.PrintWords

def starOf (w : ByteArray) : Bool := decide (1 ≤ w.size) && (bt w ((w.size - 1 : Nat) : Int) == 42)
def bareOf (w : ByteArray) : ByteArray := if starOf w = true then w.extract 0 (w.size - 1) else w
theorem bareOf_size (w : ByteArray) : (bareOf w).size ≤ w.size := by
  unfold bareOf
  split
  · rw [ByteArray.size_extract]; omega
  · omega
theorem cutSuffix_star (w : ByteArray) (hs : w.size ≤ 1000000) : strings_CutSuffix.f w ⟨#[42]⟩ = some (bareOf w, starOf w) := by
  unfold strings_CutSuffix.f stringslite_CutSuffix.f stringslite_HasSuffix.f
  have h1 : ((⟨#[42]⟩ : ByteArray).size : Int) = 1 := rfl
  rw [h1]
  by_cases h : 1 ≤ w.size
  · have hw : wrap64 ((w.size : Int) - 1) = ((w.size - 1 : Nat) : Int) := by unfold wrap64; omega
    obtain ⟨b, r, e1, e2, e3⟩ := bt_at w (w.size - 1) (by omega)
    rw [show w.size - 1 + 1 = w.size by omega, drop_all w w.size (Nat.le_refl _)] at e2
    subst e2
    have hx : (w.extract (((w.size - 1 : Nat) : Int)).toNat w.size).toList = [b] := by
      rw [Int.toNat_natCast, toList_ext, List.drop_take, e1]
      have : w.size - (w.size - 1) = 1 := by omega
      rw [this]; rfl
    have h42 : (⟨#[42]⟩ : ByteArray).toList = [42] := by rw [Go.ByteArray.toList_eq]
    have hst : starOf w = (b == 42) := by
      unfold starOf
      rw [decide_eq_true h, e3, Bool.true_and]
      by_cases hb : b = 42
      · subst hb; rfl
      · rw [beq_eq_false_iff_ne.2 hb, beq_eq_false_iff_ne.2]
        intro e
        exact hb (UInt8.toNat_inj.1 (by have : (42 : UInt8).toNat = 42 := rfl; omega))
    rw [if_pos (by omega), hw, if_pos (by omega), if_pos (by omega), hx, h42]
    simp only [Option.bind_some]
    by_cases hb : b = 42
    · rw [if_pos (by rw [hb]; rfl), if_pos (by omega), if_pos (by omega)]
      simp only [Option.bind_some]
      rw [hst, hb]
      unfold bareOf
      rw [hst, hb, if_pos (by rfl), Int.toNat_natCast]
      rfl
    · rw [if_neg (by simp [hb])]
      simp only [Option.bind_some]
      have : starOf w = false := by rw [hst]; exact beq_eq_false_iff_ne.2 hb
      unfold bareOf
      rw [this, if_neg (by simp)]
  · rw [if_neg (by omega)]
    simp only [Option.bind_some]
    rw [if_neg (by simp)]
    simp only [Option.bind_some]
    have : starOf w = false := by unfold starOf; rw [decide_eq_false h]; rfl
    unfold bareOf
    rw [this, if_neg (by simp)]

def dgOf (w : ByteArray) : S93 := ⟨⟨(parseS (bareOf w)).1, (parseS (bareOf w)).2.1⟩, false⟩
/-- The digipeaters that are told, unmarked; how many stars; behind which the last stands; the error. -/
def dgF : List ByteArray → Nat → List S93 → Int → Int → List S93 × Int × Int × Int
  | [], _, out, st, last => (out, st, last, 0)
  | w :: r, i, out, st, last =>
    if i = 8 then ([], 0, -1, 11)
    else if (parseS (bareOf w)).2.2 = 0 then dgF r (i + 1) (out ++ [dgOf w]) (if starOf w = true then st + 1 else st) (if starOf w = true then (i : Int) else last)
    else ([], 0, -1, (parseS (bareOf w)).2.2)
/-- The first n have it. -/
def marked : Nat → List S93 → List S93
  | 0, l => l
  | _, [] => []
  | n + 1, d :: r => ⟨d.f0, true⟩ :: marked n r
theorem marked_len : ∀ (n : Nat) (l : List S93), (marked n l).length = l.length
  | 0, l => rfl
  | n + 1, [] => rfl
  | n + 1, d :: r => by simp [marked, marked_len n r]
theorem marked_app : ∀ (n : Nat) (l r : List S93), n ≤ l.length → marked n (l ++ r) = marked n l ++ r
  | 0, l, r, _ => rfl
  | n + 1, [], r, h => absurd h (by simp)
  | n + 1, d :: l, r, h => by simp [marked, marked_app n l r (by simpa using h)]
theorem marked_step (n : Nat) : ∀ (l : List S93), n < l.length → marked (n + 1) l = (marked n l).set n ⟨(rd_T93 (marked n l) (n : Int)).f0, true⟩ := by
  induction n with
  | zero =>
    intro l h
    cases l with
    | nil => simp at h
    | cons d r => simp [marked, rd_T93]
  | succ n ih =>
    intro l h
    cases l with
    | nil => simp at h
    | cons d r =>
      have := ih r (by simpa using h)
      rw [marked, this]
      simp only [marked, List.set_cons_succ]
      congr 2
theorem digis_mark (out : List S93) (hl : out.length ≤ 1000000) (st : Int) (n : Nat) (hn : n ≤ out.length) : ∀ (d i K : Nat), n - i ≤ d → d + 1 ≤ K → i ≤ n →
    path_digis.l1 K (marked i out) st (n : Int) (i : Int) = some (marked n out, st, 0)
  | d, i, 0, _, hk, _ => absurd hk (by omega)
  | d, i, K + 1, hd, hk, hi => by
    rw [path_digis.l1, marked_len]
    by_cases h : i < n
    · obtain ⟨d', rfl⟩ : ∃ d', d = d' + 1 := ⟨d - 1, by omega⟩
      rw [if_pos (by omega), if_pos (by omega), if_pos (by omega), wrap_succ i (by omega), Int.toNat_natCast]
      have := marked_step i out (by omega)
      have hset : (marked i out).set i (⟨(⟨(rd_T93 (marked i out) (i : Int)).f0.f0, (rd_T93 (marked i out) (i : Int)).f0.f1⟩ : S23), true⟩ : S93) = marked (i + 1) out := by rw [this]
      rw [hset]
      exact digis_mark out hl st n hn d' (i + 1) K (by omega) (by omega) (by omega)
    · obtain rfl : i = n := by omega
      rw [if_neg (by omega)]
theorem rdOf_at (l : List ByteArray) (i : Nat) (h : i < l.length) : l.drop i = rdOf ByteArray.empty l (i : Int) :: l.drop (i + 1) := by
  rw [List.drop_eq_getElem_cons h]
  unfold rdOf
  rw [Int.toNat_natCast, List.getD_eq_getElem?_getD, List.getElem?_eq_getElem h]
  rfl
def digisEnd (x : List S93 × Int × Int × Int) : List S93 × Int × Int := if x.2.2.2 = 0 then (marked (x.2.2.1 + 1).toNat x.1, x.2.1, 0) else ([], 0, x.2.2.2)
theorem digis_at (l : List ByteArray) (hl : l.length ≤ 1000000) (hsz : ∀ x ∈ l, x.size ≤ 1000000) : ∀ (d i K : Nat) (out : List S93) (st last : Int), l.length - i ≤ d → d + 12 ≤ K → i ≤ l.length → out.length = i → i ≤ 8 → -1 ≤ last → last < i → 0 ≤ st → st ≤ i →
    path_digis.l0 K out st last l (l.length : Int) (i : Int) = some (digisEnd (dgF (l.drop i) i out st last))
  | d, i, 0, _, _, _, _, hk, _, _, _, _, _, _, _ => absurd hk (by omega)
  | d, i, K + 1, out, st, last, hd, hk, hi, ho, h8, hla, hlb, hs0, hs1 => by
    rw [path_digis.l0]
    by_cases h : i < l.length
    · obtain ⟨d', rfl⟩ : ∃ d', d = d' + 1 := ⟨d - 1, by omega⟩
      have hmem : rdOf ByteArray.empty l (i : Int) ∈ l := by
        have := rdOf_at l i h
        have h2 : rdOf ByteArray.empty l (i : Int) ∈ l.drop i := by rw [this]; simp
        exact List.mem_of_mem_drop h2
      have hz := hsz _ hmem
      rw [if_pos (by omega), if_pos (by omega), if_pos (by omega), rdOf_at l i h, dgF, cutSuffix_star _ hz]
      by_cases h8' : i = 8
      · rw [if_pos (by omega), if_pos h8']; rfl
      · rw [if_neg (by omega), if_neg h8']
        simp only [Option.bind_some]
        have hb := bareOf_size (rdOf ByteArray.empty l (i : Int))
        unfold call_Parse.f
        rw [if_pos (by omega)]
        simp only [Option.bind_some]
        by_cases he : (parseS (bareOf (rdOf ByteArray.empty l (i : Int)))).2.2 = 0
        · rw [if_pos he, if_pos he]
          have hol : (out ++ [dgOf (rdOf ByteArray.empty l (i : Int))]).length = i + 1 := by simp [ho]
          have hcell : (⟨(⟨(parseS (bareOf (rdOf ByteArray.empty l (i : Int)))).1, (parseS (bareOf (rdOf ByteArray.empty l (i : Int)))).2.1⟩ : S23), false⟩ : S93) = dgOf (rdOf ByteArray.empty l (i : Int)) := rfl
          rw [hcell]
          by_cases hst : starOf (rdOf ByteArray.empty l (i : Int)) = true
          · rw [if_pos hst, if_pos hst, if_pos hst, if_pos (by omega), wrap_succ i (by omega), show wrap64 (st + 1) = st + 1 by unfold wrap64; omega]
            exact digis_at l hl hsz d' (i + 1) K _ (st + 1) (i : Int) (by omega) (by omega) (by omega) hol (by omega) (by omega) (by omega) (by omega) (by omega)
          · rw [if_neg hst, if_neg hst, if_neg hst, if_pos (by omega), wrap_succ i (by omega)]
            exact digis_at l hl hsz d' (i + 1) K _ st last (by omega) (by omega) (by omega) hol (by omega) (by omega) (by omega) (by omega) (by omega)
        · rw [if_neg he, if_neg he]
          unfold digisEnd
          rw [if_neg he]
    · rw [if_neg (by omega), List.drop_eq_nil_of_le (by omega), show wrap64 (last + 1) = (((last + 1).toNat : Nat) : Int) by unfold wrap64; omega]
      have := digis_mark out (by omega) st (last + 1).toNat (by omega) (last + 1).toNat 0 K (by omega) (by omega) (by omega)
      rw [show marked 0 out = out by cases out <;> rfl] at this
      exact this
theorem digis_f (l : List ByteArray) (hl : l.length ≤ 1000000) (hsz : ∀ x ∈ l, x.size ≤ 1000000) (K : Nat) (hK : l.length + 12 ≤ K) : path_digis.f K l = some (digisEnd (dgF l 0 [] 0 (-1))) := by
  unfold path_digis.f
  have := digis_at l hl hsz l.length 0 K [] 0 (-1) (by omega) hK (by omega) rfl (by omega) (by omega) (by omega) (by omega) (by omega)
  exact this

def tr93 (d : S93) : S93 := ⟨d.f0, true⟩
theorem marked_all : ∀ l : List S93, marked l.length l = l.map tr93
  | [] => rfl
  | d :: r => by simp [marked, marked_all r, tr93]
theorem tr_marked : ∀ (n : Nat) (l : List S93), (marked n l).map tr93 = l.map tr93
  | 0, l => by cases l <;> rfl
  | n + 1, [] => rfl
  | n + 1, d :: r => by simp [marked, tr_marked n r, tr93]
theorem set37 (a b : S37) (D : List S93) (j : Nat) (x : S93) : (a :: b :: D.map mk37).set (j + 2) (mk37 x) = a :: b :: (D.set j x).map mk37 := by
  simp [List.map_set]
theorem ref_mark (ws : List ByteArray) (st x12 : Int) (a b : S37) (X : List S93) (hX : X.length ≤ 1000000) : ∀ (d j K : Nat), X.length - j ≤ d → d + 1 ≤ K → j ≤ X.length →
    ∃ K', K ≤ K' + d + 1 ∧ squelchref05_Parse.l2 K ws st x12 ((j + 2 : Nat) : Int) (a :: b :: (marked j X).map mk37) = squelchref05_Parse.l1 K' ws st (wrap64 (x12 + 1)) (a :: b :: (X.map tr93).map mk37)
  | d, j, 0, _, hk, _ => absurd hk (by omega)
  | d, j, K + 1, hd, hk, hj => by
    rw [squelchref05_Parse.l2]
    have hlen : ((a :: b :: (marked j X).map mk37).length : Int) = (X.length : Int) + 2 := by simp [marked_len]; omega
    rw [hlen]
    by_cases h : j < X.length
    · obtain ⟨d', rfl⟩ : ∃ d', d = d' + 1 := ⟨d - 1, by omega⟩
      obtain ⟨K', h1, h2⟩ := ref_mark ws st x12 a b X hX d' (j + 1) K (by omega) (by omega) (by omega)
      refine ⟨K', by omega, ?_⟩
      rw [if_pos (by omega), if_pos (by omega), rd37 a b (marked j X) j (by rw [marked_len]; exact h), Int.toNat_natCast, show wrap64 (((j + 2 : Nat) : Int) + 1) = ((j + 1 + 2 : Nat) : Int) by rw [w64 _ (by omega) (by omega)]; omega]
      have e := set37 a b (marked j X) j ⟨(rd_T93 (marked j X) (j : Int)).f0, true⟩
      rw [← marked_step j X h] at e
      rw [← h2, ← e]
      rfl
    · obtain rfl : j = X.length := by omega
      refine ⟨K, by omega, ?_⟩
      rw [if_neg (by omega), marked_all]
def refEnd (a b : S37) (x : List S93 × Int × Int × Int) : List S37 × Int :=
  if x.2.2.2 = 0 then (if x.2.1 > 1 then ([], 2) else (a :: b :: (marked (x.2.2.1 + 1).toNat x.1).map mk37, 0)) else ([], x.2.2.2)
theorem ref_digis (a b : S37) (ws : List ByteArray) (M : Nat) (hM : M ≤ 1000000) (hl : ws.length ≤ 1000000) (hsz : ∀ x ∈ ws, x.size ≤ M) : ∀ (d i K : Nat) (out : List S93) (st last : Int), ws.length - (i + 1) ≤ d → d * 20 + 3 * M + 60 ≤ K → i + 1 ≤ ws.length → out.length = i → i ≤ 8 → -1 ≤ last → last < i → 0 ≤ st → st ≤ i →
    squelchref05_Parse.l1 K ws st ((i + 1 : Nat) : Int) (a :: b :: (marked (last + 1).toNat out).map mk37) = some (refEnd a b (dgF (ws.drop (i + 1)) i out st last))
  | d, i, 0, _, _, _, _, hk, _, _, _, _, _, _, _ => absurd hk (by omega)
  | d, i, K + 1, out, st, last, hd, hk, hi, ho, h8, hla, hlb, hs0, hs1 => by
    rw [squelchref05_Parse.l1]
    by_cases h : i + 1 < ws.length
    · obtain ⟨d', rfl⟩ : ∃ d', d = d' + 1 := ⟨d - 1, by omega⟩
      have hst4 := Aside0.mk (show wrap64 (st + 1) = st + 1 by unfold wrap64; omega)
      have hw3 := Aside0.mk (show wrap64 (((i + 1 : Nat) : Int) + 1) = ((i + 1 + 1 : Nat) : Int) by rw [w64 _ (by omega) (by omega)]; omega)
      have a1 := Aside0.mk (show ws.length - (i + 1 + 1) ≤ d' by omega)
      have a2 := Aside0.mk (show i + 1 + 1 ≤ ws.length by omega)
      have a4 := Aside0.mk (show (-1 : Int) ≤ (i : Int) by omega)
      have a5 := Aside0.mk (show (i : Int) < ((i + 1 : Nat) : Int) by omega)
      have a6 := Aside0.mk (show 0 ≤ st + 1 by omega)
      have a7 := Aside0.mk (show st + 1 ≤ ((i + 1 : Nat) : Int) by omega)
      have a9 := Aside0.mk (show last < ((i + 1 : Nat) : Int) by omega)
      have a10 := Aside0.mk (show st ≤ ((i + 1 : Nat) : Int) by omega)
      have a11 := Aside0.mk (show (last + 1).toNat ≤ out.length by omega)
      have a12 := Aside0.mk (show ∀ n : Nat, n = out.length + 2 → n < 4398046511104 by omega)
      have a13 := Aside0.mk (show ∀ n : Nat, n = i + 1 → n ≤ 1000000 ∧ n - 0 ≤ 10 by omega)
      have hat := rdOf_at ws (i + 1) h
      obtain ⟨w, hw⟩ : ∃ w, w = rdOf ByteArray.empty ws ((i + 1 : Nat) : Int) := ⟨_, rfl⟩
      rw [← hw] at hat ⊢
      have hmem : w ∈ ws := by
        have h2 : w ∈ ws.drop (i + 1) := by rw [hat]; simp
        exact List.mem_of_mem_drop h2
      have hz := hsz w hmem
      rw [if_pos (by omega), if_pos (by omega), hat, dgF]
      by_cases h8' : i = 8
      · rw [if_pos (by omega), if_pos h8']; rfl
      · rw [if_neg (by omega), if_neg h8']
        obtain ⟨K1, rfl⟩ : ∃ K1, K = K1 + 2 := ⟨K - 2, by omega⟩
        have a3 := Aside0.mk (show i + 1 ≤ 8 by omega)
        have a8 := Aside0.mk (show ∀ K', K1 ≤ K' + 10 + 1 → d' * 20 + 3 * M + 60 ≤ K' by intro K' h; omega)
        have a14 := Aside0.mk (show d' * 20 + 3 * M + 60 ≤ K1 by omega)
        have a15 := Aside0.mk (show 10 + 1 ≤ K1 by omega)
        have a16 := Aside0.mk (show (bareOf w).size ≤ 281474976710656 ∧ 3 * (bareOf w).size + 25 ≤ K1 by have := bareOf_size w; omega)
        have a17 := Aside0.mk hla
        have a18 := Aside0.mk hs0
        clear hd hk hs0 hs1 hla hlb
        -- the star, and what is left of the word
        have key : ∀ (R : Option (List S37 × Int)), squelchref05_Parse.j5 (K1 + 1) ws st ((i + 1 : Nat) : Int) (bareOf w) (starOf w) (a :: b :: (marked (last + 1).toNat out).map mk37) = R →
            (if (w.size : Int) > 0 then (if 0 ≤ (wrap64 ((w.size : Int) - 1)) then (if (wrap64 ((w.size : Int) - 1)) < (w.size : Int) then (squelchref05_Parse.j4 (K1 + 2) ws st ((i + 1 : Nat) : Int) w ((bt w (wrap64 ((w.size : Int) - 1))) == 42) (a :: b :: (marked (last + 1).toNat out).map mk37)) else (none)) else (none)) else (squelchref05_Parse.j4 (K1 + 2) ws st ((i + 1 : Nat) : Int) w false (a :: b :: (marked (last + 1).toNat out).map mk37))) = R := by
          intro R hR
          by_cases hs : 1 ≤ w.size
          · have hw1 : wrap64 ((w.size : Int) - 1) = ((w.size - 1 : Nat) : Int) := by unfold wrap64; omega
            have hst : (bt w ((w.size - 1 : Nat) : Int) == 42) = starOf w := by unfold starOf; rw [decide_eq_true hs, Bool.true_and]
            rw [if_pos (by omega), hw1, if_pos (by omega), if_pos (by omega), hst, squelchref05_Parse.j4]
            by_cases hst2 : starOf w = true
            · rw [if_pos hst2, hw1, if_pos (by omega), if_pos (by omega), Int.toNat_natCast]
              unfold bareOf at hR
              rw [if_pos hst2] at hR
              exact hR
            · rw [if_neg hst2]
              unfold bareOf at hR
              rw [if_neg hst2] at hR
              exact hR
          · have hst : starOf w = false := by unfold starOf; rw [decide_eq_false hs]; rfl
            rw [if_neg (by omega), squelchref05_Parse.j4, if_neg (by simp)]
            unfold bareOf at hR
            rw [hst, if_neg (by simp)] at hR
            exact hR
        refine key _ ?_
        rw [squelchref05_Parse.j5, ref_parse (bareOf w) a16.out.1 K1 a16.out.2]
        simp only [Option.bind_some]
        by_cases he : (parseS (bareOf w)).2.2 = 0
        · rw [if_pos (by rw [he]; rfl), if_pos he]
          clear he key
          rw [if_pos (a12.out _ (by rw [List.length_cons, List.length_cons, List.length_map, marked_len]))]
          have happ : (a :: b :: (marked (last + 1).toNat out).map mk37) ++ [(⟨(⟨(parseS (bareOf w)).1, (parseS (bareOf w)).2.1⟩ : S23), false⟩ : S37)] = a :: b :: (marked (last + 1).toNat (out ++ [dgOf w])).map mk37 := by
            rw [marked_app _ _ _ a11.out]
            simp [mk37, dgOf]
          rw [happ]
          have hol : (out ++ [dgOf w]).length = i + 1 := by simp [ho]
          by_cases hst : starOf w = true
          · rw [if_pos hst, if_pos hst]
            try simp only [Option.bind_some]
            rw [if_pos hst, hst4.out]
            have hY : (marked (last + 1).toNat (out ++ [dgOf w])).length = i + 1 := by rw [marked_len, hol]
            obtain ⟨K', h1, h2⟩ := ref_mark ws (st + 1) ((i + 1 : Nat) : Int) a b (marked (last + 1).toNat (out ++ [dgOf w])) (a13.out _ hY).1 10 0 K1 (a13.out _ hY).2 a15.out (Nat.zero_le _)
            rw [show marked 0 (marked (last + 1).toNat (out ++ [dgOf w])) = marked (last + 1).toNat (out ++ [dgOf w]) by cases (marked (last + 1).toNat (out ++ [dgOf w])) <;> rfl] at h2
            rw [show ((0 + 2 : Nat) : Int) = 2 by rfl] at h2
            rw [h2, tr_marked, ← marked_all, hol, hw3.out]
            have := ref_digis a b ws M hM hl hsz d' (i + 1) K' (out ++ [dgOf w]) (st + 1) (i : Int) a1.out (a8.out K' h1) a2.out hol a3.out a4.out a5.out a6.out a7.out
            rw [show ((i : Int) + 1).toNat = i + 1 from rfl] at this
            exact this
          · rw [if_neg hst, if_neg hst]
            try simp only [Option.bind_some]
            rw [if_neg hst, hw3.out]
            exact ref_digis a b ws M hM hl hsz d' (i + 1) K1 (out ++ [dgOf w]) st last a1.out a14.out a2.out hol a3.out a17.out a9.out a18.out a10.out
        · have h12 : (parseS (bareOf w)).2.2 = 12 := (parse_err _).resolve_left he
          rw [if_neg (by rw [h12]; decide), if_neg he, h12]
          rfl
    · rw [if_neg (by omega), List.drop_eq_nil_of_le (by omega)]
      unfold refEnd dgF
      rw [if_pos rfl]
      by_cases h1 : st > 1
      · rw [if_pos h1, if_pos h1]
      · rw [if_neg h1, if_neg h1]

theorem parse_right (s : ByteArray) (h : (parseS s).2.2 = 0) : rightB (parseS s).1 (parseS s).2.1 = true := by
  unfold parseS at h ⊢
  split
  · rename_i hc
    rw [if_pos hc] at h
    split
    · rename_i v hv
      rw [hv] at h
      simp only at h
      split
      · rename_i hr; exact hr
      · rename_i hr; rw [if_neg hr] at h; exact absurd h (by decide)
    · rename_i hv
      rw [hv] at h
      exact absurd (show (12 : Int) = 0 from h) (by decide)
  · rename_i hc
    rw [if_neg hc] at h
    split
    · rename_i hr; exact hr
    · rename_i hr; rw [if_neg hr] at h; exact absurd h (by decide)
theorem dgF_right : ∀ (l : List ByteArray) (i : Nat) (out : List S93) (st last : Int), out.length = i → i ≤ 8 → (∀ d ∈ out, rightD d = true ∧ d.f1 = false) → -1 ≤ last → last < i →
    (dgF l i out st last).2.2.2 = 0 → (∀ d ∈ (dgF l i out st last).1, rightD d = true ∧ d.f1 = false) ∧ (dgF l i out st last).1.length ≤ 8 ∧ (((dgF l i out st last).2.2.1 + 1).toNat ≤ (dgF l i out st last).1.length)
  | [], i, out, st, last, ho, h8, hr, h1, h2, _ => ⟨hr, by show out.length ≤ 8; omega, by show (last + 1).toNat ≤ out.length; omega⟩
  | w :: r, i, out, st, last, ho, h8, hr, h1, h2, he => by
    rw [dgF] at he ⊢
    by_cases h8' : i = 8
    · rw [if_pos h8'] at he; exact absurd he (by decide)
    · rw [if_neg h8'] at he ⊢
      by_cases hp : (parseS (bareOf w)).2.2 = 0
      · rw [if_pos hp] at he ⊢
        refine dgF_right r (i + 1) (out ++ [dgOf w]) _ _ (by simp [ho]) (by omega) (fun d hd => ?_) (by split <;> omega) (by split <;> omega) he
        rcases List.mem_append.1 hd with hd | hd
        · exact hr d hd
        · rw [List.mem_singleton.1 hd]
          exact ⟨parse_right _ hp, rfl⟩
      · rw [if_neg hp] at he
        exact absurd he hp
theorem marked_right : ∀ (n : Nat) (l : List S93), (∀ d ∈ l, rightD d = true) → (marked n l).all rightD = true
  | 0, l, h => by simpa [marked] using h
  | n + 1, [], _ => rfl
  | n + 1, d :: r, h => by
    rw [marked, List.all_cons, marked_right n r (fun x hx => h x (by simp [hx]))]
    have := h d (by simp)
    unfold rightD at this ⊢
    rw [this]; rfl
theorem ord_un : ∀ (l : List S93) (p : Bool), (∀ d ∈ l, d.f1 = false) → ordFrom p l = true
  | [], _, _ => rfl
  | d :: r, p, h => by
    rw [ordFrom_cons, h d (by simp), ord_un r false (fun x hx => h x (by simp [hx]))]
    rfl
theorem ord_marked : ∀ (n : Nat) (l : List S93), (∀ d ∈ l, d.f1 = false) → ordFrom true (marked n l) = true
  | 0, l, h => by cases l with
    | nil => rfl
    | cons d r => exact ord_un (d :: r) true h
  | n + 1, [], _ => rfl
  | n + 1, d :: r, h => by
    rw [marked, ordFrom_cons, ord_marked n r (fun x hx => h x (by simp [hx]))]
    rfl
end Go.Proofs.YtpmieapgbdbabaaDoor.Pure
end

section
/- From a row's listed variables, and the world's shape, to what the walks ask of the package's variables; and the wrap of a row that hands on both. -/
set_option linter.unusedVariables false
namespace Go.Proofs.YtpmieapgbdbabaaDoor.QAll
open Go.RowKit Go.Lib

theorem lz1 : Tryd.prog.globalNamed "strconv.ErrSyntax" = some 1 := by kernel_rfl
theorem lz2 : Tryd.prog.globalNamed "strconv.ErrRange" = some 2 := by kernel_rfl
theorem lz3 : Tryd.prog.globalNamed "internal/strconv.uint64pow10" = some 3 := by kernel_rfl
theorem lzt1 : (Tryd.prog.globals[1]?).map (·.type) = some 109 := by kernel_rfl
theorem lzt2 : (Tryd.prog.globals[2]?).map (·.type) = some 109 := by kernel_rfl
theorem lzt3 : (Tryd.prog.globals[3]?).map (·.type) = some 186 := by kernel_rfl
theorem lzu109 : Tryd.prog.underlying 109 = some (.interface #[("Error", 112)]) := by kernel_rfl
theorem tab_of_reads {W : World} {name : String} {k : IntKind} {zs : List Int} {g : Nat} {t e : TypeId} {n : Nat}
    (hg : Tryd.prog.globalNamed name = some g) (hty : (Tryd.prog.globals[g]?).map (·.type) = some t) (ht : Tryd.prog.underlying t = some (.array n e)) (he : Tryd.prog.underlying e = some (.int k)) (hce : Tryd.prog.cellsOf e = 1) (hct : Tryd.prog.cellsOf t = n)
    (h : VarReads Tryd.prog W name (tabData k zs)) : TabIs Tryd.prog W name k zs := by
  obtain ⟨g', t', cs, fuel, p, hg', ht', hvar, hd⟩ := h
  obtain rfl := Option.some.inj (hg.symm.trans hg')
  obtain rfl := Option.some.inj (hty.symm.trans ht')
  unfold TabIs
  rw [hvar, ← cells_of_tab ht he hce hct hd]
theorem err_of_reads {W : World} {name : String} {g : Nat} {nm : String} {d : DataW Unit}
    (hg : Tryd.prog.globalNamed name = some g) (hty : (Tryd.prog.globals[g]?).map (·.type) = some 109)
    (h : VarReads Tryd.prog W name (.iface nm d)) : ∃ ev, W.cell? ⟨g, 0, none⟩ = some ev ∧ (ev = .nilIface ∨ ∃ te pe, ev = .iface te pe) := by
  obtain ⟨g', t', cs, fuel, p, hg', ht', hvar, hd⟩ := h
  obtain rfl := Option.some.inj (hg.symm.trans hg')
  obtain rfl := Option.some.inj (hty.symm.trans ht')
  obtain ⟨fuel', u, v, hcs, _, _⟩ := iface_of_trod lzu109 hd
  refine ⟨.iface u v, ?_, Or.inr ⟨u, v, rfl⟩⟩
  have e : cs = #[.iface u v] := by apply Array.ext'; simpa using hcs
  subst e
  simpa using World.var?_cell hg hvar 0
theorem maxLen_shaped {W : World} (h : W.ShapedOpen Tryd.prog) : ∃ m, W.cell? ⟨0, 0, none⟩ = some (.int .i64 m) :=
  cell_of_shapedOpen_int (t := 3) (zero := #[.int .i64 0]) h (of_decide_eq_true (by kernel_rfl)) (by kernel_rfl) rfl (by kernel_rfl) (by kernel_rfl) Tryd.underlying3
theorem env_of_laid {W : World} {l : List (String × DataW Unit)} (hsh : W.ShapedOpen Tryd.prog) (hL : laidMet Tryd.prog l W)
    (h1 : ("internal/strconv.uint64pow10", Rows.laid_internal_strconv_uint64pow10) ∈ l) (h2 : ("strconv.ErrRange", Rows.laid_strconv_ErrRange) ∈ l) (h3 : ("strconv.ErrSyntax", Rows.laid_strconv_ErrSyntax) ∈ l) : EnvW W := by
  refine ⟨maxLen_shaped hsh, err_of_reads lz1 lzt1 (laidMet.reads hL h3), err_of_reads lz2 lzt2 (laidMet.reads hL h2), ?_⟩
  exact tab_of_reads (t := 186) (zs := Lib.pow10Tab) lz3 lzt3 Tryd.underlying186 Tryd.underlying169 (by kernel_rfl) (by kernel_rfl) (laidMet.reads hL h1)

/-- The wrap of a row that lists variables, with the reach, the listed variables and the world's shape handed on. -/
theorem returns_laid_shaped {H : Type} {enc : TypeId × Value → H} {a : Assume} {C : Checked} {os : Os} {f : FuncId} {fn : Func} {s : ChangeSpec} {conds : List PathCond} {apart fresh handsOn again : Bool} {l : List (String × DataW Unit)}
    (own : ownKnob C.prog.godebug = none) (started : os.Started) (noInit : C.prog.inits.idxOf? f = none) (hfn : C.prog.funcs[f]? = some fn)
    (witness : ∃ (w : World) (tape : Tape) (i : Input), w.os = os ∧ (w.forCall tape i).Shaped C.prog ∧ i.vars = [] ∧ Input.okWide C.prog (w.forCall tape i) .any w.heap.size f i ∧
      ((s.pre enc C.prog fn conds apart (w.forCall tape i).memory i.args ∧ laidMetH C.prog l (w.forCall tape i).memory) ∧ sizedMet enc C.prog fn (OpenSpec.ofChange s) apart (w.forCall tape i).memory i.args) ∧ a.holds C.prog (lone (Frame.enter C.prog f i.args .normal) [] (w.forCall tape i)))
    (contract : ∀ (W : World) (base : Nat) (args : Array Value) (ds gs : List (DataW H)) (before : List MemPlace),
      (∀ (j : Nat) t v, fn.params[j]? = some t → args[j]? = some v → Value.okWide C.prog W .any base t v) →
      DataW.Whole enc C.prog fn.params.toList s.vars apart W args.toList ds gs before →
      conds.all (PathCond.test C.prog ⟨fn.params.toList, ds, s.plain.varTypes C.prog, gs⟩) = true →
      (DataW.weightsEach C.prog (fn.params.toList ++ s.plain.varTypes C.prog) (ds ++ gs)).all (· ≤ reachBytes) = true → laidMetH C.prog l W → W.ShapedOpen C.prog →
      Calls C.prog f args W fun e W' => ∃ v, e = .returned v ∧ s.post enc C.prog fn apart fresh handsOn again W args v W') :
    ReturnsInHanded a C os f .any (fun w args => (s.pre enc C.prog fn conds apart w args ∧ laidMetH C.prog l w) ∧ sizedMet enc C.prog fn (OpenSpec.ofChange s) apart w args) (s.post enc C.prog fn apart fresh handsOn again) := by
  refine returnsInHanded_of_calls own started noInit witness ?_
  intro w tape i _ hsh _ hok hpre hholds
  obtain ⟨_, _, _, fn', hfn', _, _, _, _, hval⟩ := hok
  have e : fn' = fn := Option.some.inj (hfn'.symm.trans hfn)
  subst e
  obtain ⟨⟨⟨ds, gs, before, hw, hc⟩, hx⟩, hz⟩ := hpre
  have hw' := DataW.Whole.of_heap (w' := w.forCall tape i) (by rfl) hw
  refine (contract (w.forCall tape i) w.heap.size i.args ds gs before hval hw' hc (hz.weights hw) (laidMetH.of_heap (by rfl) hx) hsh).mono fun e W' ⟨v, he, hp⟩ => ?_
  subst he
  exact ChangeSpec.post_blind hp
end Go.Proofs.YtpmieapgbdbabaaDoor.QAll
end

section
/- A slice that came in, laid open: its elements as a list, read as the walks read them. -/
set_option linter.unusedVariables false
namespace Go.Proofs.YtpmieapgbdbabaaDoor.QAll
open Go.ChangeShapes Go.WideShapes Go.Deep Go.Proofs.YtpmieapgbdbabaaDoorW.PrintWords
theorem list_of {α : Type} {Pr : Nat → α → Prop} : ∀ n : Nat, (∀ i, i < n → ∃ a, Pr i a) → ∃ l : List α, l.length = n ∧ ∀ i a, l[i]? = some a → Pr i a
  | 0, _ => ⟨[], rfl, fun i a h => by simp at h⟩
  | n + 1, h => by
    obtain ⟨l, hl, hp⟩ := list_of n (fun i hi => h i (by omega))
    obtain ⟨a, ha⟩ := h n (by omega)
    refine ⟨l ++ [a], by simp [hl], fun i b hb => ?_⟩
    by_cases hi : i < n
    · rw [List.getElem?_append_left (by omega)] at hb
      exact hp i b hb
    · by_cases he : i = n
      · subst he
        rw [← hl] at hb
        simp at hb
        subst hb
        exact ha
      · rw [List.getElem?_eq_none (by simp; omega)] at hb
        cases hb
theorem rows_of_trod {α H : Type} {enc : TypeId × Value → H} {P : Program} {w : World} {t e : TypeId} {fuel : Nat} {cs : List Value} {x : DataW H × List MemPlace} (d : Kd α) (ht : P.underlying t = some (.slice e)) (hC : P.cellsOf e = d.sz) (F : α → Prop)
    (hel : ∀ (n : Nat) (cs' : List Value) (y : DataW H × List MemPlace), DataW.trod enc P w 0 (fun _ => true) true n e cs' = some y → ∃ a, d.K w a cs' ∧ cs'.length = d.sz ∧ F a)
    (h : DataW.trod enc P w 0 (fun _ => true) true fuel t cs = some x) : ∃ (A : Option Addr) (c : Nat) (l : List α), cs = [.slice A l.length c] ∧ d.C w A l.length l ∧ l.length ≤ c ∧ ∀ a ∈ l, F a := by
  rcases open_slice ht h with ⟨rfl, _⟩ | ⟨a, len, cap, m, n, D, Pl, hcs, hb, hl, hm, hmm, hx, hi⟩
  · exact ⟨none, 0, [], rfl, Kd.C_nil d w, Nat.le_refl _, fun a h => by cases h⟩
  · have hml : len ≤ m := by rw [hmm]; simpa using hl
    obtain ⟨l, hll, hp⟩ := list_of (Pr := fun i b => F b ∧ ∃ c, c.length = d.sz ∧ d.K w b c ∧ ∀ j u, c[j]? = some u → w.cell? (a.add (i * d.sz + j)) = some u) len (fun i hil => by
      obtain ⟨cs', hc, ht'⟩ := hi i (by omega)
      obtain ⟨b, hK, hlen, hF⟩ := hel n cs' _ ht'
      obtain ⟨_, hcl, hat⟩ := World.cells?_some hc
      refine ⟨b, hF, cs', hlen, hK, fun j u hu => ?_⟩
      have hj : j < cs'.length := (List.getElem?_eq_some_iff.1 hu).1
      have := hat j (by omega)
      rw [hC] at this
      rw [← Go.Deep.add_add, this, hu])
    refine ⟨some a, cap, l, by rw [hcs, hll], ⟨rfl, ?_, fun _ => ⟨a, rfl, fun j p hjp => (hp j p hjp).2⟩⟩, by omega, fun b hb' => ?_⟩
    · have : maxLen = 9223372036854775807 := rfl
      omega
    · obtain ⟨i, hi', rfl⟩ := List.getElem_of_mem hb'
      exact (hp i _ (List.getElem?_eq_getElem hi')).1
end Go.Proofs.YtpmieapgbdbabaaDoor.QAll
end
