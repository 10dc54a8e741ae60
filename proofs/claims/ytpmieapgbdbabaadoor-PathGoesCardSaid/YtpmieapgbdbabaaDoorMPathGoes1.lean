/- Words, walks and plain laws that the row of the law PathGoes rests on. -/
import Derived.Test.YtpmieapgbdbabaaDoorMPathGoes0
import Derived.Shelf.Strings.Builder1
import Derived.Shelf.Strings.OnBuilder
import Derived.Shelf.Strings.Builder2
import Derived.Shelf.Strings.Trim
import Derived.Shelf.Small.Utf8
import Derived.Shelf.Small.Strs
import Derived.Shelf.Small.Wraps
import Derived.Shelf.Strings.BuilderF
import Derived.Shelf.Utf8.RuneCount
import Derived.Shelf.Strconv.Atoi
import Derived.Shelf.Strconv.Itoa0
import Derived.Shelf.Strconv.Itoa1
import Derived.Shelf.LaysM
import Derived.Shelf.Strconv.Itoa2
import Derived.Shelf.Strconv.Itoa3
import Derived.Shelf.Strconv.AtoiErrFast
import Derived.Shelf.Strconv.ParseIntEmpty
import Derived.Shelf.Strconv.AtoiFail
import Derived.Shelf.Strconv.Clone
import Derived.Shelf.Strconv.SyntaxError
import Derived.Shelf.LaysC
import Derived.Shelf.Strconv.ToError
import Derived.Shelf.Strconv.AtoiErr
import Derived.Shelf.Strconv.ErrVar
import Derived.Shelf.Strconv.Lower
import Derived.Shelf.Strconv.ParseUint10
import Derived.Shelf.Strconv.ParseUint10Empty
import Derived.Shelf.Strconv.ParseUint10Any
import Derived.Shelf.Strconv.ParseInt10
import Derived.Shelf.Strconv.AtoiLong
import Derived.Shelf.Strconv.AtoiInnerAll
import Derived.Shelf.Strconv.RangeError
import Derived.Shelf.Strconv.ToErrorRange
import Derived.Shelf.Strconv.AtoiAll
import Derived.Shelf.Strconv.ErrVarAll
import Derived.Shelf.Strings.Search1
import Derived.Shelf.Strings.Search2
import Derived.Shelf.Strings.Search3
import Derived.Shelf.Strings.Cut
import Derived.Shelf.Strings.Count
import Derived.Shelf.Strings.Shaped
import Derived.Shelf.Strings.Prefix
import Derived.Shelf.Strings.Split
import Derived.Shelf.Strings.SplitShaped
import Derived.Shelf.Unicode.Decode
import Derived.Shelf.Strings.Runes
import Derived.Shelf.Strings.RuneCount
import Derived.Shelf.Strings.AsciiSet
import Derived.Shelf.Strings.Explode
import Derived.Shelf.Unicode.DecodeSlow
import Derived.Shelf.Unicode.DecodeAny
import Derived.Shelf.Unicode.DecodeLast
import Derived.Test.YtpmieapgbdbabaaDoorProg
section
/- Walks, written by a program of this session (wip/pp): a Go function comes to what the Lean function beside it tells. -/
namespace Go.Proofs.YtpmieapgbdbabaaDoor.QAll
open Go.RowKit Go.Proofs.YtpmieapgbdbabaaDoorW.PrintWords Go.Proofs.YtpmieapgbdbabaaDoorW.PrintLast Go.Proofs.YtpmieapgbdbabaaDoorW.PrintMore
attribute [local go_sem] max2_int min2_int max_two min_two max_three min_three max_four min_four
set_option linter.unusedVariables false
set_option linter.unusedSimpArgs false

def squelchref05_Sent.f (k : Nat) (l0_0 : List (S37)) : Option ((List (S37)) × Bool) := (squelchref05_Next.f k l0_0).bind fun t164 => ((some (([] : List (S37)) : List (S37))).bind fun y165 => (if y165.length + l0_0.length < 4398046511104 then ((some (y165 ++ l0_0 : List (S37))).bind fun y168 => (if t164 ≥ 0 then (if 0 ≤ t164 then (if t164 < (y168.length : Int) then (some ((y168.set (t164 : Int).toNat (⟨(⟨(rd_T37 y168 t164).f0.f0, (rd_T37 y168 t164).f0.f1⟩ : S23), true⟩ : S37)), decide (t164 ≥ 0))) else (none)) else (none)) else (some (y168, decide (t164 ≥ 0))))) else (none)))
set_option maxHeartbeats 8000000 in
set_option maxRecDepth 100000 in
theorem squelchref05_Sent.calls (k : Nat) (A0_0 : Option Addr) (c0_0 : Nat) (l0_0 : List (S37)) (r1 : List (S37)) (r2 : Bool) (w : World) (hr0_0 : Kd.C k37 w A0_0 l0_0.length l0_0) (hc0_0 : l0_0.length ≤ c0_0) (h : squelchref05_Sent.f k l0_0 = some (r1, r2)) :
  Calls Tryd.prog 21 #[.agg #[.slice A0_0 l0_0.length c0_0]] w fun e w' => ∃ v0_ : Value, e = .returned (.tuple #[.agg #[v0_], .bool r2]) ∧ Kd.R k37 37 w' w.heap.size (fun _ => True) v0_ r1 ∧ Below w.heap.size w w' := by
 have hu31 := Tryd.underlying31
 have HR0_0 := Aside0.mk hr0_0
 have HC0_0 := Aside0.mk hc0_0
 clear hr0_0 hc0_0
 have HB := Aside0.mk (Below.refl w.heap.size w)
 have H : ((squelchref05_Next.f k l0_0).bind fun t164 => ((some (([] : List (S37)) : List (S37))).bind fun y165 => (if y165.length + l0_0.length < 4398046511104 then ((some (y165 ++ l0_0 : List (S37))).bind fun y168 => (if t164 ≥ 0 then (if 0 ≤ t164 then (if t164 < (y168.length : Int) then (some ((y168.set (t164 : Int).toNat (⟨(⟨(rd_T37 y168 t164).f0.f0, (rd_T37 y168 t164).f0.f1⟩ : S23), true⟩ : S37)), decide (t164 ≥ 0))) else (none)) else (none)) else (some (y168, decide (t164 ≥ 0))))) else (none)))) = some (r1, r2) := h
 clear h
 replace H := Option.bind_eq_some_iff.mp H
 obtain ⟨t164, A20, H⟩ := H
 replace H : ((some (([] : List (S37)) : List (S37))).bind fun y165 => (if y165.length + l0_0.length < 4398046511104 then ((some (y165 ++ l0_0 : List (S37))).bind fun y168 => (if t164 ≥ 0 then (if 0 ≤ t164 then (if t164 < (y168.length : Int) then (some ((y168.set (t164 : Int).toNat (⟨(⟨(rd_T37 y168 t164).f0.f0, (rd_T37 y168 t164).f0.f1⟩ : S23), true⟩ : S37)), decide (t164 ≥ 0))) else (none)) else (none)) else (some (y168, decide (t164 ≥ 0))))) else (none))) = some (r1, r2) := H
 have A2 := Aside0.mk A20
 clear A20
 obtain ⟨y165, hy165⟩ : ∃ y_ : List (S37), y_ = (([] : List (S37))) := ⟨_, rfl⟩
 replace H : (if y165.length + l0_0.length < 4398046511104 then ((some (y165 ++ l0_0 : List (S37))).bind fun y168 => (if t164 ≥ 0 then (if 0 ≤ t164 then (if t164 < (y168.length : Int) then (some ((y168.set (t164 : Int).toNat (⟨(⟨(rd_T37 y168 t164).f0.f0, (rd_T37 y168 t164).f0.f1⟩ : S23), true⟩ : S37)), decide (t164 ≥ 0))) else (none)) else (none)) else (some (y168, decide (t164 ≥ 0))))) else (none)) = some (r1, r2) := by first | (rw [hy165]; with_reducible exact H) | (have H2_ := (Option.bind_some _ _).symm.trans H; rw [hy165]; with_reducible exact H2_) | (have H2_ := (Option.bind_some _ _).symm.trans H; with_reducible exact H2_) | with_reducible exact H | (rw [hy165]; exact H) | exact H
 have Ny165 := Aside0.mk hy165
 clear hy165
 by_cases c3 : y165.length + l0_0.length < 4398046511104
 ·rw [if_pos c3] at H
  have LMc3 := Aside0.mk c3
  clear c3
  obtain ⟨y168, hy168⟩ : ∃ y_ : List (S37), y_ = (y165 ++ l0_0) := ⟨_, rfl⟩
  replace H : (if t164 ≥ 0 then (if 0 ≤ t164 then (if t164 < (y168.length : Int) then (some ((y168.set (t164 : Int).toNat (⟨(⟨(rd_T37 y168 t164).f0.f0, (rd_T37 y168 t164).f0.f1⟩ : S23), true⟩ : S37)), decide (t164 ≥ 0))) else (none)) else (none)) else (some (y168, decide (t164 ≥ 0)))) = some (r1, r2) := by first | (rw [hy168]; with_reducible exact H) | (have H2_ := (Option.bind_some _ _).symm.trans H; rw [hy168]; with_reducible exact H2_) | (have H2_ := (Option.bind_some _ _).symm.trans H; with_reducible exact H2_) | with_reducible exact H | (rw [hy168]; exact H) | exact H
  have Ny168 := Aside0.mk hy168
  clear hy168
  by_cases c4 : t164 ≥ 0
  ·rw [if_pos c4] at H
   have c4b0 : decide (0 ≤ t164) = true := decide_eq_true c4
   clear c4
   by_cases c5 : 0 ≤ t164
   ·rw [if_pos c5] at H
    have c5b0 : decide (0 ≤ t164) = true := decide_eq_true c5
    clear c5
    by_cases c6 : t164 < (y168.length : Int)
    ·rw [if_pos c6] at H
     have c6b0 : decide (t164 < (y168.length : Int)) = true := decide_eq_true c6
     clear c6
     obtain ⟨y171, hy171⟩ : ∃ y_ : List (S37), y_ = (y168.set (t164 : Int).toNat (⟨(⟨(rd_T37 y168 t164).f0.f0, (rd_T37 y168 t164).f0.f1⟩ : S23), true⟩ : S37)) := ⟨_, rfl⟩
     replace H : (some (y171, decide (t164 ≥ 0))) = some (r1, r2) := by first | (rw [hy171]; with_reducible exact H) | (have H2_ := (Option.bind_some _ _).symm.trans H; rw [hy171]; with_reducible exact H2_) | (have H2_ := (Option.bind_some _ _).symm.trans H; with_reducible exact H2_) | with_reducible exact H | (rw [hy171]; exact H) | exact H
     have Ny171 := Aside0.mk hy171
     clear hy171
     simp only [Option.some.injEq, Prod.mk.injEq] at H
     obtain ⟨rfl, rfl⟩ := H
     go_enter Tryd.func21, Tryd.ntmps21
     go_wp2_with (first | ((with_reducible refine gate_dst (N := 1) rfl ?_); refine box_event ?hg (N := 1) ?hd (cs := #[.slice A0_0 l0_0.length c0_0]) (t := 31) ?hr ?_; (case hd => rfl); (case hg => rfl); (case hr => first | (go_simp; done) | (go_simp; rfl)); intro gb162 hg w8 hbox hb; have n0_ := Aside0.mk (below_step (by repeat (first | (with_reducible first | exact HB.out | apply below_alloc | apply pw_below_drewN | apply below_drew1) | exact HB.out)) hb); have n1_ := Aside0.mk (hbox); have n2_ := Aside0.mk ((by rw [hg]; exact (below_size (by repeat (first | (with_reducible first | exact HB.out | apply below_alloc | apply pw_below_drewN | apply below_drew1) | exact HB.out))) : w.heap.size ≤ gb162)); have n3_ := Aside0.mk ((by rw [hg]; exact (below_size (by repeat (first | (with_reducible first | exact HB.out | apply below_alloc | apply pw_below_drewN | apply below_drew1) | exact HB.out))) : w.heap.size ≤ gb162)); clear HB; have HB := n0_; have BK162 := n1_; have GW162 := n2_; have GE162 := n3_; clear n0_ n1_ n2_ n3_; clear hb hbox hg) | ((with_reducible refine gate_dst (N := 2) rfl ?_); refine box_event ?hg (N := 2) ?hd (cs := #[.slice none 0 0]) (t := 31) ?hr ?_; (case hd => rfl); (case hg => rfl); (case hr => first | (go_simp; done) | (go_simp; rfl)); intro gb163 hg w9 hbox hb; have n0_ := Aside0.mk (blk_below (g := gb162) (o := .cells #[.slice A0_0 l0_0.length c0_0] 31 (0, 0)) (by (with_reducible repeat (first | refine blk_drewN ?_ _ | refine blk_drew ?_ | refine blk_alloc ?_ _)); exact BK162.out) hb); have n1_ := Aside0.mk (below_step (by repeat (first | (with_reducible first | exact HB.out | apply below_alloc | apply pw_below_drewN | apply below_drew1 | refine below_set ?_ GE162.out) | exact HB.out)) hb); have n2_ := Aside0.mk (hbox); have n3_ := Aside0.mk ((by rw [hg]; exact (below_size (by repeat (first | (with_reducible first | exact HB.out | apply below_alloc | apply pw_below_drewN | apply below_drew1 | refine below_set ?_ GE162.out) | exact HB.out))) : w.heap.size ≤ gb163)); have n4_ := Aside0.mk ((by rw [hg]; exact (below_size (by repeat (first | (with_reducible first | exact HB.out | apply below_alloc | apply pw_below_drewN | apply below_drew1 | refine below_set ?_ GE162.out) | exact HB.out))) : w.heap.size ≤ gb163)); have n5_ := Aside0.mk ((by rw [hg]; exact Nat.ne_of_lt (blk_lt (g := gb162) (o := .cells #[.slice A0_0 l0_0.length c0_0] 31 (0, 0)) (by (with_reducible repeat (first | refine blk_drewN ?_ _ | refine blk_drew ?_ | refine blk_alloc ?_ _)); exact BK162.out)) : gb162 ≠ gb163)); have n6_ := Aside0.mk ((by rw [hg]; exact Nat.ne_of_gt (blk_lt (g := gb162) (o := .cells #[.slice A0_0 l0_0.length c0_0] 31 (0, 0)) (by (with_reducible repeat (first | refine blk_drewN ?_ _ | refine blk_drew ?_ | refine blk_alloc ?_ _)); exact BK162.out)) : gb163 ≠ gb162)); clear BK162; clear HB; have BK162 := n0_; have HB := n1_; have BK163 := n2_; have GW163 := n3_; have GE163 := n4_; have NB162_163 := n5_; have NB163_162 := n6_; clear n0_ n1_ n2_ n3_ n4_ n5_ n6_; clear hb hbox hg; have hnb10 := NB162_163.out; have hnc10 := NB163_162.out; have hcz11_0 : w9.cell? ⟨gb162, 0, none⟩ = some (.slice A0_0 l0_0.length c0_0) := (blk_cell BK162.out 0).trans rfl; have hfz11_0 := blk_frozen BK162.out 0) | ((with_reducible refine gate_callee (f := 19) rfl ?_); refine goesL_ (some 7) rfl rfl Tryd.func19 (by kernel_rfl) rfl #[.agg #[.slice A0_0 l0_0.length c0_0]] rfl (by (try simp only [List.map_toArray, List.map_cons, List.map_nil]); first | done | rfl | (simp only [List.length_drop, List.length_take]; rfl)) ?_; (with_reducible refine (squelchref05_Next.calls k _ _ l0_0 t164 _ ?side1 ?side2 A2.out).mono ?_); (case side1 => repeat (first | exact (Kd.C_below HR0_0.out HB.out) | (with_reducible refine Kd.C_alloc ?_ _) | (with_reducible refine Kd.C_drewN ?_ _) | (with_reducible refine Kd.C_drew ?_))); (case side2 => exact HC0_0.out); rintro e w12 ⟨rfl, hb⟩; refine ⟨_, rfl, ?_⟩; have n0_ := Aside0.mk (blk_below (g := gb162) (o := .cells #[.slice A0_0 l0_0.length c0_0] 31 (0, 0)) (by (with_reducible repeat (first | refine blk_drewN ?_ _ | refine blk_drew ?_ | refine blk_alloc ?_ _)); exact BK162.out) hb); have n1_ := Aside0.mk (blk_below (g := gb163) (o := .cells #[.slice none 0 0] 31 (0, 0)) (by (with_reducible repeat (first | refine blk_drewN ?_ _ | refine blk_drew ?_ | refine blk_alloc ?_ _)); exact BK163.out) hb); have n2_ := Aside0.mk (below_step (by repeat (first | (with_reducible first | exact HB.out | apply below_alloc | apply pw_below_drewN | apply below_drew1 | refine below_set ?_ GE162.out | refine below_set ?_ GE163.out) | exact HB.out)) hb); clear BK162; clear BK163; clear HB; have BK162 := n0_; have BK163 := n1_; have HB := n2_; clear n0_ n1_ n2_; (try clear hb); (try clear hb2); (try clear hk); (try clear hi)) | ((with_reducible refine gate_dst (N := 8) rfl ?_); refine Kd.R_lit k37 _ 37 ?hg (N := 8) ?hd (xs := ([] : List (S37))) (inner := []) (ok := fun _ => True) (okp := fun _ => True) ?hr ?hp (fun _ hk => hk) trivial (Below.refl _ _) (Nat.le_refl _) (by simp) ?_; (case hd => rfl); (case hg => rfl); (case hr => first | (go_simp; done) | (go_simp; rfl)); (case hp => exact (Reps.none _ _)); intro v166 w13 ho14 hb hg_ hnew_; clear hg_ hnew_; (first | rw [← Ny165.out] at ho14 | (simp only [Int.reduceToNat] at ho14; rw [← Ny165.out] at ho14)); have n0_ := Aside0.mk (Kd.R_lower ho14 (below_size (by repeat (first | (with_reducible first | exact HB.out | apply below_alloc | apply pw_below_drewN | apply below_drew1 | refine below_set ?_ GE162.out | refine below_set ?_ GE163.out) | exact HB.out)))); have n1_ := Aside0.mk (blk_below (g := gb162) (o := .cells #[.slice A0_0 l0_0.length c0_0] 31 (0, 0)) (by (with_reducible repeat (first | refine blk_drewN ?_ _ | refine blk_drew ?_ | refine blk_alloc ?_ _)); exact BK162.out) hb); have n2_ := Aside0.mk (blk_below (g := gb163) (o := .cells #[.slice none 0 0] 31 (0, 0)) (by (with_reducible repeat (first | refine blk_drewN ?_ _ | refine blk_drew ?_ | refine blk_alloc ?_ _)); exact BK163.out) hb); have n3_ := Aside0.mk (below_step (by repeat (first | (with_reducible first | exact HB.out | apply below_alloc | apply pw_below_drewN | apply below_drew1 | refine below_set ?_ GE162.out | refine below_set ?_ GE163.out) | exact HB.out)) hb); clear BK162; clear BK163; clear HB; have HO167 := n0_; have BK162 := n1_; have BK163 := n2_; have HB := n3_; clear n0_ n1_ n2_ n3_; clear hb ho14; have hcz15_0 : w13.cell? ⟨gb162, 0, none⟩ = some (.slice A0_0 l0_0.length c0_0) := (blk_cell BK162.out 0).trans rfl; have hfz15_0 := blk_frozen BK162.out 0) | ((with_reducible refine gate_builtin (b := .append) (xs := #[.tmp 8, .tmp 10]) rfl ?_); at_builtin; refine Kd.R_append_rows k37 (w0 := w) w.heap.size rfl (.tmp 8) (.tmp 10) 29 37 (.agg #[(.string ⟨#[]⟩), (.int .i64 0), (.bool false)]) 32 rfl Tryd.underlying29 info37 rfl (by decide) (by omega) v166 y165 l0_0 _ _ _ (fun _ => True) (fun _ => False) rfl rfl ?aO ?aR (fun _ _ h => h) (fun _ h => h.elim) ?aF ?aB ?aS ?aL ?_; (case aR => repeat (first | exact (Kd.C_below HR0_0.out HB.out) | (with_reducible refine Kd.C_alloc ?_ _) | (with_reducible refine Kd.C_drewN ?_ _) | (with_reducible refine Kd.C_drew ?_))); (case aB => exact (by repeat (first | (with_reducible first | exact HB.out | apply below_alloc | apply pw_below_drewN | apply below_drew1 | refine below_set ?_ GE162.out | refine below_set ?_ GE163.out) | exact HB.out))); (case aF => exact (fun _ _ => trivial)); (case aO => exact (by (with_reducible repeat (first | apply Kd.R_alloc | apply Kd.R_drewN | apply Kd.R_drew)); exact HO167.out)); (case aS => exact (below_size (by repeat (first | (with_reducible first | exact HB.out | apply below_alloc | apply pw_below_drewN | apply below_drew1 | refine below_set ?_ GE162.out | refine below_set ?_ GE163.out) | exact HB.out)))); (case aL => have := LMc3.out; omega); intro v169 w16 ho hb hg hat; rw [← Ny168.out] at ho; have n0_ := Aside0.mk (blk_grown (g := gb162) (o := .cells #[.slice A0_0 l0_0.length c0_0] 31 (0, 0)) (by (with_reducible repeat (first | refine blk_drewN ?_ _ | refine blk_drew ?_ | refine blk_alloc ?_ _)); exact BK162.out) hg (Kd.R_ne HO167.out BK162.out (by decide))); have n1_ := Aside0.mk (blk_grown (g := gb163) (o := .cells #[.slice none 0 0] 31 (0, 0)) (by (with_reducible repeat (first | refine blk_drewN ?_ _ | refine blk_drew ?_ | refine blk_alloc ?_ _)); exact BK163.out) hg (Kd.R_ne HO167.out BK163.out (by decide))); have n2_ := Aside0.mk (hb); have n3_ := Aside0.mk (ho); clear BK162; clear BK163; clear HB; clear HO167; have BK162 := n0_; have BK163 := n1_; have HB := n2_; have HO170 := n3_; clear n0_ n1_ n2_ n3_; clear ho hb hg hat; have p7 : 0 ≤ (t164 : Int) := of_decide_eq_true (by first | (with_reducible assumption) | assumption); have q7 : (t164 : Int) < ((y168.length : Int) : Int) := of_decide_eq_true (by first | (with_reducible assumption) | assumption); obtain ⟨go7, co7, eo7, gb7, gl7, cl7, HG7⟩ := Kd.R_form HO170.out (by omega); (first | cases eo7 | (injection eo7 with ea_ en_ ec_; (first | subst ea_ | (injection ea_ with ea_; subst ea_)); subst ec_; clear en_)); have GB7 := Aside0.mk gb7; have GG7 := Aside0.mk HG7; clear gb7 gl7 HG7; obtain ⟨ce7, hcl7, hM7, hcc7, hfr7⟩ := Kd.R_elem HO170.out z37 (t164 : Int) p7 q7; obtain rfl := k37_openM hM7; have hx7_0 : w16.cell? ⟨go7, (t164 : Int).toNat * 3, none⟩ = some (.string ((rd_T37 y168 t164).f0.f0)) := hcc7 0 _ rfl; have hx7_1 : w16.cell? ⟨go7, (t164 : Int).toNat * 3 + 1, none⟩ = some (.int .i64 ((rd_T37 y168 t164).f0.f1)) := hcc7 1 _ rfl; have hx7_2 : w16.cell? ⟨go7, (t164 : Int).toNat * 3 + 2, none⟩ = some (.bool ((rd_T37 y168 t164).f1)) := hcc7 2 _ rfl; have hf7_0 : w16.frozen? ⟨go7, (t164 : Int).toNat * 3, none⟩ = false := hfr7 0; have hf7_1 : w16.frozen? ⟨go7, (t164 : Int).toNat * 3 + 1, none⟩ = false := hfr7 1; have hf7_2 : w16.frozen? ⟨go7, (t164 : Int).toNat * 3 + 2, none⟩ = false := hfr7 2; clear hcl7 hcc7 hfr7 hM7; replace p7 := eq_true p7; replace q7 := eq_true q7; have HX17 := Aside0.mk (show Kd.R k37 37 w16 w.heap.size (fun _ => True) (.slice (some ⟨go7, 0, none⟩) y168.length co7) y168 from (by (with_reducible repeat (first | apply Kd.R_alloc | apply Kd.R_drewN | apply Kd.R_drew)); exact HO170.out)); obtain ⟨ce17, hcl17, hM17, hcc17, hfr17⟩ := Kd.R_elem HX17.out z37 (t164 : Int) (of_decide_eq_true (by first | (with_reducible assumption) | assumption)) (by have h_ : (t164 : Int) < ((y168.length : Int) : Int) := of_decide_eq_true (by first | (with_reducible assumption) | assumption); first | exact h_ | (have e_ := (Kd.R_reads' HO170.out).1; omega) | simpa using h_); obtain rfl := k37_openM hM17; have HP17 := Kd.R_seg HX17.out (t164 : Int) (of_decide_eq_true (by first | (with_reducible assumption) | assumption)) (by have h_ : (t164 : Int) < ((y168.length : Int) : Int) := of_decide_eq_true (by first | (with_reducible assumption) | assumption); first | exact h_ | (have e_ := (Kd.R_reads' HO170.out).1; omega) | simpa using h_) (seg := [.bool true]) (j := 2) hcl17 hcc17 (show 3 ≤ 3 from by decide) (x' := (⟨(⟨(rd_T37 y168 t164).f0.f0, (rd_T37 y168 t164).f0.f1⟩ : S23), true⟩ : S37)) (k37_mkM _ _ _ (⟨(⟨(rd_T37 y168 t164).f0.f0, (rd_T37 y168 t164).f0.f1⟩ : S23), true⟩ : S37) ) (fun _ hk => hk); have hx17_2 := hcc17 2 _ rfl; (try simp only [show (k37).sz = 3 from rfl, Nat.mul_one, Nat.add_zero] at hx17_2); have hf17_2 := hfr17 2; (try simp only [show (k37).sz = 3 from rfl, Nat.mul_one, Nat.add_zero] at hf17_2); clear hcl17 hcc17 hfr17 hM17) | ((with_reducible refine gate_store (t := 4) (p := 17) rfl ?_); refine store_event (t := 4) (p := 17) (v := ?vo_w18) (w1 := (w16.setCell ⟨go7, (t164 : Int).toNat * 3 + 2, none⟩ (.bool true))) ?hg ?ho ?hn ?hr ?_; (case ho => rfl); (case hg => rfl); (case hn => rfl); (case hr => first | (go_simp; done) | (go_simp; rfl)); intro w18 hw; have hg : w16.grownBy w18 (some go7) := (by rw [hw]; exact HP17.2); have hp_ : Kd.R k37 37 w18 w.heap.size (fun _ => True) (.slice (some ⟨go7, 0, none⟩) y168.length co7) y171 := (by rw [hw, Ny171.out]; exact HP17.1); clear HP17; have n0_ := Aside0.mk (blk_grown (g := gb162) (o := .cells #[.slice A0_0 l0_0.length c0_0] 31 (0, 0)) (by (with_reducible repeat (first | refine blk_drewN ?_ _ | refine blk_drew ?_ | refine blk_alloc ?_ _)); exact BK162.out) hg (Kd.R_ne HO170.out BK162.out (by decide))); have n1_ := Aside0.mk (blk_grown (g := gb163) (o := .cells #[.slice none 0 0] 31 (0, 0)) (by (with_reducible repeat (first | refine blk_drewN ?_ _ | refine blk_drew ?_ | refine blk_alloc ?_ _)); exact BK163.out) hg (Kd.R_ne HO170.out BK163.out (by decide))); have n2_ := Aside0.mk (hp_); have n3_ := Aside0.mk ((by rw [hw]; exact below_set (HB.out) GB7.out : Below w.heap.size w w18)); clear BK162; clear BK163; clear HO170; clear HB; have BK162 := n0_; have BK163 := n1_; have HO170 := n2_; have HB := n3_; clear n0_ n1_ n2_ n3_; clear hg hw hp_; have hcz19_0 : w18.cell? ⟨gb163, 0, none⟩ = some (.slice none 0 0) := (blk_cell BK163.out 0).trans rfl; have hfz19_0 := blk_frozen BK163.out 0))
     refine bodyPost_ret (results_ct rfl _ _ gb163 31 #[.slice (some ⟨go7, 0, none⟩) y168.length co7] (0, 0) _ rfl (by (with_reducible repeat (first | refine blk_drewN ?_ _ | refine blk_drew ?_ | refine blk_alloc ?_ _)); refine blk_put (cs := #[.slice none 0 0]) ?_ 0 _ rfl; (with_reducible repeat (first | refine blk_drewN ?_ _ | refine blk_drew ?_ | refine blk_alloc ?_ _)); exact BK163.out) Tryd.underlying31 rfl (by kernel_rfl)) rfl ?_
     exact ⟨_, by first | rfl | (simp [errW_none, errW_some] <;> rfl) | (simp [*, errW_none, errW_some] <;> rfl), by (with_reducible repeat (first | apply Kd.R_alloc | apply Kd.R_drewN | apply Kd.R_drew)); exact Kd.R_mono (Kd.R_far (p := ⟨gb163, 0, none⟩) (Kd.R_types HO170.out BK163.out (by decide)) (fun _ hk => hk.2) (.slice (some ⟨go7, 0, none⟩) y168.length co7)) (fun _ hk => trivial), by repeat (first | (with_reducible first | exact HB.out | apply below_alloc | apply pw_below_drewN | apply below_drew1 | refine below_set ?_ GE162.out | refine below_set ?_ GE163.out) | exact HB.out)⟩
    ·rw [if_neg c6] at H
     exact absurd H (by simp)
   ·rw [if_neg c5] at H
    exact absurd H (by simp)
  ·rw [if_neg c4] at H
   have c4b0 : decide (0 ≤ t164) = false := decide_eq_false c4
   clear c4
   simp only [Option.some.injEq, Prod.mk.injEq] at H
   obtain ⟨rfl, rfl⟩ := H
   go_enter Tryd.func21, Tryd.ntmps21
   go_wp2_with (first | ((with_reducible refine gate_dst (N := 1) rfl ?_); refine box_event ?hg (N := 1) ?hd (cs := #[.slice A0_0 l0_0.length c0_0]) (t := 31) ?hr ?_; (case hd => rfl); (case hg => rfl); (case hr => first | (go_simp; done) | (go_simp; rfl)); intro gb162 hg w20 hbox hb; have n0_ := Aside0.mk (below_step (by repeat (first | (with_reducible first | exact HB.out | apply below_alloc | apply pw_below_drewN | apply below_drew1) | exact HB.out)) hb); have n1_ := Aside0.mk (hbox); have n2_ := Aside0.mk ((by rw [hg]; exact (below_size (by repeat (first | (with_reducible first | exact HB.out | apply below_alloc | apply pw_below_drewN | apply below_drew1) | exact HB.out))) : w.heap.size ≤ gb162)); have n3_ := Aside0.mk ((by rw [hg]; exact (below_size (by repeat (first | (with_reducible first | exact HB.out | apply below_alloc | apply pw_below_drewN | apply below_drew1) | exact HB.out))) : w.heap.size ≤ gb162)); clear HB; have HB := n0_; have BK162 := n1_; have GW162 := n2_; have GE162 := n3_; clear n0_ n1_ n2_ n3_; clear hb hbox hg) | ((with_reducible refine gate_dst (N := 2) rfl ?_); refine box_event ?hg (N := 2) ?hd (cs := #[.slice none 0 0]) (t := 31) ?hr ?_; (case hd => rfl); (case hg => rfl); (case hr => first | (go_simp; done) | (go_simp; rfl)); intro gb163 hg w21 hbox hb; have n0_ := Aside0.mk (blk_below (g := gb162) (o := .cells #[.slice A0_0 l0_0.length c0_0] 31 (0, 0)) (by (with_reducible repeat (first | refine blk_drewN ?_ _ | refine blk_drew ?_ | refine blk_alloc ?_ _)); exact BK162.out) hb); have n1_ := Aside0.mk (below_step (by repeat (first | (with_reducible first | exact HB.out | apply below_alloc | apply pw_below_drewN | apply below_drew1 | refine below_set ?_ GE162.out) | exact HB.out)) hb); have n2_ := Aside0.mk (hbox); have n3_ := Aside0.mk ((by rw [hg]; exact (below_size (by repeat (first | (with_reducible first | exact HB.out | apply below_alloc | apply pw_below_drewN | apply below_drew1 | refine below_set ?_ GE162.out) | exact HB.out))) : w.heap.size ≤ gb163)); have n4_ := Aside0.mk ((by rw [hg]; exact (below_size (by repeat (first | (with_reducible first | exact HB.out | apply below_alloc | apply pw_below_drewN | apply below_drew1 | refine below_set ?_ GE162.out) | exact HB.out))) : w.heap.size ≤ gb163)); have n5_ := Aside0.mk ((by rw [hg]; exact Nat.ne_of_lt (blk_lt (g := gb162) (o := .cells #[.slice A0_0 l0_0.length c0_0] 31 (0, 0)) (by (with_reducible repeat (first | refine blk_drewN ?_ _ | refine blk_drew ?_ | refine blk_alloc ?_ _)); exact BK162.out)) : gb162 ≠ gb163)); have n6_ := Aside0.mk ((by rw [hg]; exact Nat.ne_of_gt (blk_lt (g := gb162) (o := .cells #[.slice A0_0 l0_0.length c0_0] 31 (0, 0)) (by (with_reducible repeat (first | refine blk_drewN ?_ _ | refine blk_drew ?_ | refine blk_alloc ?_ _)); exact BK162.out)) : gb163 ≠ gb162)); clear BK162; clear HB; have BK162 := n0_; have HB := n1_; have BK163 := n2_; have GW163 := n3_; have GE163 := n4_; have NB162_163 := n5_; have NB163_162 := n6_; clear n0_ n1_ n2_ n3_ n4_ n5_ n6_; clear hb hbox hg; have hnb22 := NB162_163.out; have hnc22 := NB163_162.out; have hcz23_0 : w21.cell? ⟨gb162, 0, none⟩ = some (.slice A0_0 l0_0.length c0_0) := (blk_cell BK162.out 0).trans rfl; have hfz23_0 := blk_frozen BK162.out 0) | ((with_reducible refine gate_callee (f := 19) rfl ?_); refine goesL_ (some 7) rfl rfl Tryd.func19 (by kernel_rfl) rfl #[.agg #[.slice A0_0 l0_0.length c0_0]] rfl (by (try simp only [List.map_toArray, List.map_cons, List.map_nil]); first | done | rfl | (simp only [List.length_drop, List.length_take]; rfl)) ?_; (with_reducible refine (squelchref05_Next.calls k _ _ l0_0 t164 _ ?side1 ?side2 A2.out).mono ?_); (case side1 => repeat (first | exact (Kd.C_below HR0_0.out HB.out) | (with_reducible refine Kd.C_alloc ?_ _) | (with_reducible refine Kd.C_drewN ?_ _) | (with_reducible refine Kd.C_drew ?_))); (case side2 => exact HC0_0.out); rintro e w24 ⟨rfl, hb⟩; refine ⟨_, rfl, ?_⟩; have n0_ := Aside0.mk (blk_below (g := gb162) (o := .cells #[.slice A0_0 l0_0.length c0_0] 31 (0, 0)) (by (with_reducible repeat (first | refine blk_drewN ?_ _ | refine blk_drew ?_ | refine blk_alloc ?_ _)); exact BK162.out) hb); have n1_ := Aside0.mk (blk_below (g := gb163) (o := .cells #[.slice none 0 0] 31 (0, 0)) (by (with_reducible repeat (first | refine blk_drewN ?_ _ | refine blk_drew ?_ | refine blk_alloc ?_ _)); exact BK163.out) hb); have n2_ := Aside0.mk (below_step (by repeat (first | (with_reducible first | exact HB.out | apply below_alloc | apply pw_below_drewN | apply below_drew1 | refine below_set ?_ GE162.out | refine below_set ?_ GE163.out) | exact HB.out)) hb); clear BK162; clear BK163; clear HB; have BK162 := n0_; have BK163 := n1_; have HB := n2_; clear n0_ n1_ n2_; (try clear hb); (try clear hb2); (try clear hk); (try clear hi)) | ((with_reducible refine gate_dst (N := 8) rfl ?_); refine Kd.R_lit k37 _ 37 ?hg (N := 8) ?hd (xs := ([] : List (S37))) (inner := []) (ok := fun _ => True) (okp := fun _ => True) ?hr ?hp (fun _ hk => hk) trivial (Below.refl _ _) (Nat.le_refl _) (by simp) ?_; (case hd => rfl); (case hg => rfl); (case hr => first | (go_simp; done) | (go_simp; rfl)); (case hp => exact (Reps.none _ _)); intro v166 w25 ho26 hb hg_ hnew_; clear hg_ hnew_; (first | rw [← Ny165.out] at ho26 | (simp only [Int.reduceToNat] at ho26; rw [← Ny165.out] at ho26)); have n0_ := Aside0.mk (Kd.R_lower ho26 (below_size (by repeat (first | (with_reducible first | exact HB.out | apply below_alloc | apply pw_below_drewN | apply below_drew1 | refine below_set ?_ GE162.out | refine below_set ?_ GE163.out) | exact HB.out)))); have n1_ := Aside0.mk (blk_below (g := gb162) (o := .cells #[.slice A0_0 l0_0.length c0_0] 31 (0, 0)) (by (with_reducible repeat (first | refine blk_drewN ?_ _ | refine blk_drew ?_ | refine blk_alloc ?_ _)); exact BK162.out) hb); have n2_ := Aside0.mk (blk_below (g := gb163) (o := .cells #[.slice none 0 0] 31 (0, 0)) (by (with_reducible repeat (first | refine blk_drewN ?_ _ | refine blk_drew ?_ | refine blk_alloc ?_ _)); exact BK163.out) hb); have n3_ := Aside0.mk (below_step (by repeat (first | (with_reducible first | exact HB.out | apply below_alloc | apply pw_below_drewN | apply below_drew1 | refine below_set ?_ GE162.out | refine below_set ?_ GE163.out) | exact HB.out)) hb); clear BK162; clear BK163; clear HB; have HO167 := n0_; have BK162 := n1_; have BK163 := n2_; have HB := n3_; clear n0_ n1_ n2_ n3_; clear hb ho26; have hcz27_0 : w25.cell? ⟨gb162, 0, none⟩ = some (.slice A0_0 l0_0.length c0_0) := (blk_cell BK162.out 0).trans rfl; have hfz27_0 := blk_frozen BK162.out 0) | ((with_reducible refine gate_builtin (b := .append) (xs := #[.tmp 8, .tmp 10]) rfl ?_); at_builtin; refine Kd.R_append_rows k37 (w0 := w) w.heap.size rfl (.tmp 8) (.tmp 10) 29 37 (.agg #[(.string ⟨#[]⟩), (.int .i64 0), (.bool false)]) 32 rfl Tryd.underlying29 info37 rfl (by decide) (by omega) v166 y165 l0_0 _ _ _ (fun _ => True) (fun _ => False) rfl rfl ?aO ?aR (fun _ _ h => h) (fun _ h => h.elim) ?aF ?aB ?aS ?aL ?_; (case aR => repeat (first | exact (Kd.C_below HR0_0.out HB.out) | (with_reducible refine Kd.C_alloc ?_ _) | (with_reducible refine Kd.C_drewN ?_ _) | (with_reducible refine Kd.C_drew ?_))); (case aB => exact (by repeat (first | (with_reducible first | exact HB.out | apply below_alloc | apply pw_below_drewN | apply below_drew1 | refine below_set ?_ GE162.out | refine below_set ?_ GE163.out) | exact HB.out))); (case aF => exact (fun _ _ => trivial)); (case aO => exact (by (with_reducible repeat (first | apply Kd.R_alloc | apply Kd.R_drewN | apply Kd.R_drew)); exact HO167.out)); (case aS => exact (below_size (by repeat (first | (with_reducible first | exact HB.out | apply below_alloc | apply pw_below_drewN | apply below_drew1 | refine below_set ?_ GE162.out | refine below_set ?_ GE163.out) | exact HB.out)))); (case aL => have := LMc3.out; omega); intro v169 w28 ho hb hg hat; rw [← Ny168.out] at ho; have n0_ := Aside0.mk (blk_grown (g := gb162) (o := .cells #[.slice A0_0 l0_0.length c0_0] 31 (0, 0)) (by (with_reducible repeat (first | refine blk_drewN ?_ _ | refine blk_drew ?_ | refine blk_alloc ?_ _)); exact BK162.out) hg (Kd.R_ne HO167.out BK162.out (by decide))); have n1_ := Aside0.mk (blk_grown (g := gb163) (o := .cells #[.slice none 0 0] 31 (0, 0)) (by (with_reducible repeat (first | refine blk_drewN ?_ _ | refine blk_drew ?_ | refine blk_alloc ?_ _)); exact BK163.out) hg (Kd.R_ne HO167.out BK163.out (by decide))); have n2_ := Aside0.mk (hb); have n3_ := Aside0.mk (ho); clear BK162; clear BK163; clear HB; clear HO167; have BK162 := n0_; have BK163 := n1_; have HB := n2_; have HO170 := n3_; clear n0_ n1_ n2_ n3_; clear ho hb hg hat; obtain ⟨Ao29, co29, eo29⟩ := Kd.R_slice HO170.out; subst eo29; have hcz30_0 : w28.cell? ⟨gb163, 0, none⟩ = some (.slice none 0 0) := (blk_cell BK163.out 0).trans rfl; have hfz30_0 := blk_frozen BK163.out 0))
   refine bodyPost_ret (results_ct rfl _ _ gb163 31 #[.slice Ao29 y168.length co29] (0, 0) _ rfl (by (with_reducible repeat (first | refine blk_drewN ?_ _ | refine blk_drew ?_ | refine blk_alloc ?_ _)); refine blk_put (cs := #[.slice none 0 0]) ?_ 0 _ rfl; (with_reducible repeat (first | refine blk_drewN ?_ _ | refine blk_drew ?_ | refine blk_alloc ?_ _)); exact BK163.out) Tryd.underlying31 rfl (by kernel_rfl)) rfl ?_
   exact ⟨_, by first | rfl | (simp [errW_none, errW_some] <;> rfl) | (simp [*, errW_none, errW_some] <;> rfl), by (with_reducible repeat (first | apply Kd.R_alloc | apply Kd.R_drewN | apply Kd.R_drew)); exact Kd.R_mono (Kd.R_far (p := ⟨gb163, 0, none⟩) (Kd.R_types HO170.out BK163.out (by decide)) (fun _ hk => hk.2) (.slice Ao29 y168.length co29)) (fun _ hk => trivial), by repeat (first | (with_reducible first | exact HB.out | apply below_alloc | apply pw_below_drewN | apply below_drew1 | refine below_set ?_ GE162.out | refine below_set ?_ GE163.out) | exact HB.out)⟩
 ·rw [if_neg c3] at H
  exact absurd H (by simp)

end Go.Proofs.YtpmieapgbdbabaaDoor.QAll
end

section
/- Walks, written by a program of this session (wip/pp): a Go function comes to what the Lean function beside it tells. -/
namespace Go.Proofs.YtpmieapgbdbabaaDoor.QAll
open Go.RowKit Go.Proofs.YtpmieapgbdbabaaDoorW.PrintWords Go.Proofs.YtpmieapgbdbabaaDoorW.PrintLast Go.Proofs.YtpmieapgbdbabaaDoorW.PrintMore
attribute [local go_sem] max2_int min2_int max_two min_two max_three min_three max_four min_four
set_option linter.unusedVariables false
set_option linter.unusedSimpArgs false

theorem eqA37 (d : Nat) (w : World) (x0 y0 : ByteArray) (x1 y1 : Int) (x2 y2 : Bool) :
  (Op.equalIn (d + 3) 37 (.agg #[.string x0, .int .i64 x1, .bool x2]) (.agg #[.string y0, .int .i64 y1, .bool y2])).run Tryd.prog w = .ok ((x0.toList == y0.toList && (x1 == y1)) && (x2 == y2)) w := by
 refine eqA_of Tryd.underlying37 (by kernel_rfl) ?_
 refine eqf_cons (by rfl) (by go_simp) (by go_simp) (eqA23 (d + 0) w _ _ _ _) ?_
 exact eqf_last (by rfl) (by go_simp; rfl) (by go_simp; rfl) (by go_simp)
end Go.Proofs.YtpmieapgbdbabaaDoor.QAll
end

section
/- Walks, written by a program of this session (wip/pp): a Go function comes to what the Lean function beside it tells. -/
namespace Go.Proofs.YtpmieapgbdbabaaDoor.QAll
open Go.RowKit Go.Proofs.YtpmieapgbdbabaaDoorW.PrintWords Go.Proofs.YtpmieapgbdbabaaDoorW.PrintLast Go.Proofs.YtpmieapgbdbabaaDoorW.PrintMore
attribute [local go_sem] max2_int min2_int max_two min_two max_three min_three max_four min_four
set_option linter.unusedVariables false
set_option linter.unusedSimpArgs false

attribute [local go_sem high] eqA37
def squelchref05_Same.l0 : Nat → Int → List (S37) → List (S37) → Option (Bool)
 | 0, _, _, _ => none
 | k + 1, x5, x173000, x174000 => if x5 < (x173000.length : Int) then (if 0 ≤ x5 then (if x5 < (x174000.length : Int) then (if ((!((((rd_T37 x173000 x5).f0.f0).toList) == (((rd_T37 x174000 x5).f0.f0).toList)) || (!(((rd_T37 x173000 x5).f0.f1) == ((rd_T37 x174000 x5).f0.f1)))) || (!(((rd_T37 x173000 x5).f1) == ((rd_T37 x174000 x5).f1)))) = true then (some false) else (squelchref05_Same.l0 k (wrap64 (x5 + 1)) x173000 x174000)) else (none)) else (none)) else (some true)
def squelchref05_Same.f (k : Nat) (l0_0 : List (S37)) (l1_0 : List (S37)) : Option (Bool) := if (l0_0.length : Int) = (l1_0.length : Int) then (squelchref05_Same.l0 k 0 l0_0 l1_0) else (some false)
set_option maxHeartbeats 8000000 in
set_option maxRecDepth 100000 in
theorem squelchref05_Same.calls (k : Nat) (A0_0 : Option Addr) (c0_0 : Nat) (l0_0 : List (S37)) (A1_0 : Option Addr) (c1_0 : Nat) (l1_0 : List (S37)) (r : Bool) (w : World) (hr0_0 : Kd.C k37 w A0_0 l0_0.length l0_0) (hc0_0 : l0_0.length ≤ c0_0) (hr1_0 : Kd.C k37 w A1_0 l1_0.length l1_0) (hc1_0 : l1_0.length ≤ c1_0) (h : squelchref05_Same.f k l0_0 l1_0 = some r) :
  Calls Tryd.prog 23 #[.agg #[.slice A0_0 l0_0.length c0_0], .agg #[.slice A1_0 l1_0.length c1_0]] w fun e w' => e = .returned (.bool r) ∧ Below w.heap.size w w' := by
 have hu31 := Tryd.underlying31
 have hu37 := Tryd.underlying37
 have HR0_0 := Aside0.mk hr0_0
 have HC0_0 := Aside0.mk hc0_0
 clear hr0_0 hc0_0
 have HR1_0 := Aside0.mk hr1_0
 have HC1_0 := Aside0.mk hc1_0
 clear hr1_0 hc1_0
 have HB := Aside0.mk (Below.refl w.heap.size w)
 have H : (if (l0_0.length : Int) = (l1_0.length : Int) then (squelchref05_Same.l0 k 0 l0_0 l1_0) else (some false)) = some r := h
 clear h
 by_cases c3 : (l0_0.length : Int) = (l1_0.length : Int)
 ·rw [if_pos c3] at H
  have c3b0 : ((l0_0.length : Int) == (l1_0.length : Int)) = true := beq_iff_eq.mpr c3
  have c3b1 : ((l0_0.length : Int) != (l1_0.length : Int)) = false := bne_eq_false_iff_eq.mpr c3
  have c3b2 : (l0_0.length == l1_0.length) = true := by first | simpa using c3 | (simp at c3 ⊢; omega)
  clear c3
  have H' := Aside0.mk H
  clear H
  go_enter Tryd.func23, Tryd.ntmps23
  go_wp2_with (first | ((with_reducible refine gate_dst (N := 2) rfl ?_); refine box_event ?hg (N := 2) ?hd (cs := #[.slice A0_0 l0_0.length c0_0]) (t := 31) ?hr ?_; (case hd => rfl); (case hg => rfl); (case hr => first | (go_simp; done) | (go_simp; rfl)); intro gb172 hg w4 hbox hb; have n0_ := Aside0.mk (below_step (by repeat (first | (with_reducible first | exact HB.out | apply below_alloc | apply pw_below_drewN | apply below_drew1) | exact HB.out)) hb); have n1_ := Aside0.mk (hbox); have n2_ := Aside0.mk ((by rw [hg]; exact (below_size (by repeat (first | (with_reducible first | exact HB.out | apply below_alloc | apply pw_below_drewN | apply below_drew1) | exact HB.out))) : w.heap.size ≤ gb172)); have n3_ := Aside0.mk ((by rw [hg]; exact (below_size (by repeat (first | (with_reducible first | exact HB.out | apply below_alloc | apply pw_below_drewN | apply below_drew1) | exact HB.out))) : w.heap.size ≤ gb172)); clear HB; have HB := n0_; have BK172 := n1_; have GW172 := n2_; have GE172 := n3_; clear n0_ n1_ n2_ n3_; clear hb hbox hg) | ((with_reducible refine gate_dst (N := 3) rfl ?_); refine box_event ?hg (N := 3) ?hd (cs := #[.slice A1_0 l1_0.length c1_0]) (t := 31) ?hr ?_; (case hd => rfl); (case hg => rfl); (case hr => first | (go_simp; done) | (go_simp; rfl)); intro gb173 hg w5 hbox hb; have n0_ := Aside0.mk (blk_below (g := gb172) (o := .cells #[.slice A0_0 l0_0.length c0_0] 31 (0, 0)) (by (with_reducible repeat (first | refine blk_drewN ?_ _ | refine blk_drew ?_ | refine blk_alloc ?_ _)); exact BK172.out) hb); have n1_ := Aside0.mk (below_step (by repeat (first | (with_reducible first | exact HB.out | apply below_alloc | apply pw_below_drewN | apply below_drew1 | refine below_set ?_ GE172.out) | exact HB.out)) hb); have n2_ := Aside0.mk (hbox); have n3_ := Aside0.mk ((by rw [hg]; exact (below_size (by repeat (first | (with_reducible first | exact HB.out | apply below_alloc | apply pw_below_drewN | apply below_drew1 | refine below_set ?_ GE172.out) | exact HB.out))) : w.heap.size ≤ gb173)); have n4_ := Aside0.mk ((by rw [hg]; exact (below_size (by repeat (first | (with_reducible first | exact HB.out | apply below_alloc | apply pw_below_drewN | apply below_drew1 | refine below_set ?_ GE172.out) | exact HB.out))) : w.heap.size ≤ gb173)); have n5_ := Aside0.mk ((by rw [hg]; exact Nat.ne_of_lt (blk_lt (g := gb172) (o := .cells #[.slice A0_0 l0_0.length c0_0] 31 (0, 0)) (by (with_reducible repeat (first | refine blk_drewN ?_ _ | refine blk_drew ?_ | refine blk_alloc ?_ _)); exact BK172.out)) : gb172 ≠ gb173)); have n6_ := Aside0.mk ((by rw [hg]; exact Nat.ne_of_gt (blk_lt (g := gb172) (o := .cells #[.slice A0_0 l0_0.length c0_0] 31 (0, 0)) (by (with_reducible repeat (first | refine blk_drewN ?_ _ | refine blk_drew ?_ | refine blk_alloc ?_ _)); exact BK172.out)) : gb173 ≠ gb172)); clear BK172; clear HB; have BK172 := n0_; have HB := n1_; have BK173 := n2_; have GW173 := n3_; have GE173 := n4_; have NB172_173 := n5_; have NB173_172 := n6_; clear n0_ n1_ n2_ n3_ n4_ n5_ n6_; clear hb hbox hg; have hnb6 := NB172_173.out; have hnc6 := NB173_172.out; have hcz7_0 : w5.cell? ⟨gb172, 0, none⟩ = some (.slice A0_0 l0_0.length c0_0) := (blk_cell BK172.out 0).trans rfl; have hfz7_0 := blk_frozen BK172.out 0; have hcz8_0 : w5.cell? ⟨gb173, 0, none⟩ = some (.slice A1_0 l1_0.length c1_0) := (blk_cell BK173.out 0).trans rfl; have hfz8_0 := blk_frozen BK173.out 0))
  repeat (go_quiet (first | ((with_reducible refine gate_dst (N := 2) rfl ?_); refine box_event ?hg (N := 2) ?hd (cs := #[.slice A0_0 l0_0.length c0_0]) (t := 31) ?hr ?_; (case hd => rfl); (case hg => rfl); (case hr => first | (go_simp; done) | (go_simp; rfl)); intro gb172 hg w4 hbox hb; have n0_ := Aside0.mk (below_step (by repeat (first | (with_reducible first | exact HB.out | apply below_alloc | apply pw_below_drewN | apply below_drew1) | exact HB.out)) hb); have n1_ := Aside0.mk (hbox); have n2_ := Aside0.mk ((by rw [hg]; exact (below_size (by repeat (first | (with_reducible first | exact HB.out | apply below_alloc | apply pw_below_drewN | apply below_drew1) | exact HB.out))) : w.heap.size ≤ gb172)); have n3_ := Aside0.mk ((by rw [hg]; exact (below_size (by repeat (first | (with_reducible first | exact HB.out | apply below_alloc | apply pw_below_drewN | apply below_drew1) | exact HB.out))) : w.heap.size ≤ gb172)); clear HB; have HB := n0_; have BK172 := n1_; have GW172 := n2_; have GE172 := n3_; clear n0_ n1_ n2_ n3_; clear hb hbox hg) | ((with_reducible refine gate_dst (N := 3) rfl ?_); refine box_event ?hg (N := 3) ?hd (cs := #[.slice A1_0 l1_0.length c1_0]) (t := 31) ?hr ?_; (case hd => rfl); (case hg => rfl); (case hr => first | (go_simp; done) | (go_simp; rfl)); intro gb173 hg w5 hbox hb; have n0_ := Aside0.mk (blk_below (g := gb172) (o := .cells #[.slice A0_0 l0_0.length c0_0] 31 (0, 0)) (by (with_reducible repeat (first | refine blk_drewN ?_ _ | refine blk_drew ?_ | refine blk_alloc ?_ _)); exact BK172.out) hb); have n1_ := Aside0.mk (below_step (by repeat (first | (with_reducible first | exact HB.out | apply below_alloc | apply pw_below_drewN | apply below_drew1 | refine below_set ?_ GE172.out) | exact HB.out)) hb); have n2_ := Aside0.mk (hbox); have n3_ := Aside0.mk ((by rw [hg]; exact (below_size (by repeat (first | (with_reducible first | exact HB.out | apply below_alloc | apply pw_below_drewN | apply below_drew1 | refine below_set ?_ GE172.out) | exact HB.out))) : w.heap.size ≤ gb173)); have n4_ := Aside0.mk ((by rw [hg]; exact (below_size (by repeat (first | (with_reducible first | exact HB.out | apply below_alloc | apply pw_below_drewN | apply below_drew1 | refine below_set ?_ GE172.out) | exact HB.out))) : w.heap.size ≤ gb173)); have n5_ := Aside0.mk ((by rw [hg]; exact Nat.ne_of_lt (blk_lt (g := gb172) (o := .cells #[.slice A0_0 l0_0.length c0_0] 31 (0, 0)) (by (with_reducible repeat (first | refine blk_drewN ?_ _ | refine blk_drew ?_ | refine blk_alloc ?_ _)); exact BK172.out)) : gb172 ≠ gb173)); have n6_ := Aside0.mk ((by rw [hg]; exact Nat.ne_of_gt (blk_lt (g := gb172) (o := .cells #[.slice A0_0 l0_0.length c0_0] 31 (0, 0)) (by (with_reducible repeat (first | refine blk_drewN ?_ _ | refine blk_drew ?_ | refine blk_alloc ?_ _)); exact BK172.out)) : gb173 ≠ gb172)); clear BK172; clear HB; have BK172 := n0_; have HB := n1_; have BK173 := n2_; have GW173 := n3_; have GE173 := n4_; have NB172_173 := n5_; have NB173_172 := n6_; clear n0_ n1_ n2_ n3_ n4_ n5_ n6_; clear hb hbox hg; have hnb6 := NB172_173.out; have hnc6 := NB173_172.out; have hcz7_0 : w5.cell? ⟨gb172, 0, none⟩ = some (.slice A0_0 l0_0.length c0_0) := (blk_cell BK172.out 0).trans rfl; have hfz7_0 := blk_frozen BK172.out 0; have hcz8_0 : w5.cell? ⟨gb173, 0, none⟩ = some (.slice A1_0 l1_0.length c1_0) := (blk_cell BK173.out 0).trans rfl; have hfz8_0 := blk_frozen BK173.out 0)); try go_wp2_with (first | ((with_reducible refine gate_dst (N := 2) rfl ?_); refine box_event ?hg (N := 2) ?hd (cs := #[.slice A0_0 l0_0.length c0_0]) (t := 31) ?hr ?_; (case hd => rfl); (case hg => rfl); (case hr => first | (go_simp; done) | (go_simp; rfl)); intro gb172 hg w4 hbox hb; have n0_ := Aside0.mk (below_step (by repeat (first | (with_reducible first | exact HB.out | apply below_alloc | apply pw_below_drewN | apply below_drew1) | exact HB.out)) hb); have n1_ := Aside0.mk (hbox); have n2_ := Aside0.mk ((by rw [hg]; exact (below_size (by repeat (first | (with_reducible first | exact HB.out | apply below_alloc | apply pw_below_drewN | apply below_drew1) | exact HB.out))) : w.heap.size ≤ gb172)); have n3_ := Aside0.mk ((by rw [hg]; exact (below_size (by repeat (first | (with_reducible first | exact HB.out | apply below_alloc | apply pw_below_drewN | apply below_drew1) | exact HB.out))) : w.heap.size ≤ gb172)); clear HB; have HB := n0_; have BK172 := n1_; have GW172 := n2_; have GE172 := n3_; clear n0_ n1_ n2_ n3_; clear hb hbox hg) | ((with_reducible refine gate_dst (N := 3) rfl ?_); refine box_event ?hg (N := 3) ?hd (cs := #[.slice A1_0 l1_0.length c1_0]) (t := 31) ?hr ?_; (case hd => rfl); (case hg => rfl); (case hr => first | (go_simp; done) | (go_simp; rfl)); intro gb173 hg w5 hbox hb; have n0_ := Aside0.mk (blk_below (g := gb172) (o := .cells #[.slice A0_0 l0_0.length c0_0] 31 (0, 0)) (by (with_reducible repeat (first | refine blk_drewN ?_ _ | refine blk_drew ?_ | refine blk_alloc ?_ _)); exact BK172.out) hb); have n1_ := Aside0.mk (below_step (by repeat (first | (with_reducible first | exact HB.out | apply below_alloc | apply pw_below_drewN | apply below_drew1 | refine below_set ?_ GE172.out) | exact HB.out)) hb); have n2_ := Aside0.mk (hbox); have n3_ := Aside0.mk ((by rw [hg]; exact (below_size (by repeat (first | (with_reducible first | exact HB.out | apply below_alloc | apply pw_below_drewN | apply below_drew1 | refine below_set ?_ GE172.out) | exact HB.out))) : w.heap.size ≤ gb173)); have n4_ := Aside0.mk ((by rw [hg]; exact (below_size (by repeat (first | (with_reducible first | exact HB.out | apply below_alloc | apply pw_below_drewN | apply below_drew1 | refine below_set ?_ GE172.out) | exact HB.out))) : w.heap.size ≤ gb173)); have n5_ := Aside0.mk ((by rw [hg]; exact Nat.ne_of_lt (blk_lt (g := gb172) (o := .cells #[.slice A0_0 l0_0.length c0_0] 31 (0, 0)) (by (with_reducible repeat (first | refine blk_drewN ?_ _ | refine blk_drew ?_ | refine blk_alloc ?_ _)); exact BK172.out)) : gb172 ≠ gb173)); have n6_ := Aside0.mk ((by rw [hg]; exact Nat.ne_of_gt (blk_lt (g := gb172) (o := .cells #[.slice A0_0 l0_0.length c0_0] 31 (0, 0)) (by (with_reducible repeat (first | refine blk_drewN ?_ _ | refine blk_drew ?_ | refine blk_alloc ?_ _)); exact BK172.out)) : gb173 ≠ gb172)); clear BK172; clear HB; have BK172 := n0_; have HB := n1_; have BK173 := n2_; have GW173 := n3_; have GE173 := n4_; have NB172_173 := n5_; have NB173_172 := n6_; clear n0_ n1_ n2_ n3_ n4_ n5_ n6_; clear hb hbox hg; have hnb6 := NB172_173.out; have hnc6 := NB173_172.out; have hcz7_0 : w5.cell? ⟨gb172, 0, none⟩ = some (.slice A0_0 l0_0.length c0_0) := (blk_cell BK172.out 0).trans rfl; have hfz7_0 := blk_frozen BK172.out 0; have hcz8_0 : w5.cell? ⟨gb173, 0, none⟩ = some (.slice A1_0 l1_0.length c1_0) := (blk_cell BK173.out 0).trans rfl; have hfz8_0 := blk_frozen BK173.out 0)))
  go_loopg [5] k (fun kq v5 w' => ∃ (x5_1 : Int), v5 = .int .i64 x5_1 ∧ Aside0 (squelchref05_Same.l0 kq x5_1 l0_0 l1_0 = some r) ∧ Aside0 (kq ≤ k) ∧ Aside0 (w'.heap[gb172]? = some (.cells #[(.slice A0_0 l0_0.length c0_0)] 31 (0, 0))) ∧ Aside0 (w'.heap[gb173]? = some (.cells #[(.slice A1_0 l1_0.length c1_0)] 31 (0, 0))) ∧ Aside0 (Below w.heap.size w w'))
  case atStart => exact ⟨(0), (by first | rfl | (simp; done) | (simp [*]; done) | (simp; exact (fun l : List UInt8 => (by cases l <;> rfl : l.isEmpty = !(l != []))) _)), H', ⟨Nat.le_refl _⟩, ⟨by (with_reducible repeat (first | refine blk_drewN ?_ _ | refine blk_drew ?_ | refine blk_alloc ?_ _)); exact BK172.out⟩, ⟨by (with_reducible repeat (first | refine blk_drewN ?_ _ | refine blk_drew ?_ | refine blk_alloc ?_ _)); exact BK173.out⟩, ⟨by repeat (first | (with_reducible first | exact HB.out | apply below_alloc | apply pw_below_drewN | apply below_drew1 | refine below_set ?_ GE172.out | refine below_set ?_ GE173.out) | exact HB.out)⟩⟩
  case round =>
   clear H'
   try clear c1
   try clear c2
   try clear p2
   try clear c3
   try clear c3b0
   try clear c3b1
   try clear c3b2
   try clear c6
   try clear hcz7_0
   try clear hcz8_0
   try clear hfz7_0
   try clear hfz8_0
   obtain ⟨x5_1, rfl, HA, HK1, BK172, BK173, HB⟩ := hrel
   cases gk with
   | zero => exact absurd HA.out (by simp [squelchref05_Same.l0])
   | succ k1 =>
    have H := HA.out
    clear HA
    simp only [squelchref05_Same.l0] at H
    by_cases c9 : x5_1 < (l0_0.length : Int)
    ·rw [if_pos c9] at H
     have c9b0 : decide (x5_1 < (l0_0.length : Int)) = true := decide_eq_true c9
     clear c9
     by_cases c10 : 0 ≤ x5_1
     ·rw [if_pos c10] at H
      have c10b0 : decide (0 ≤ x5_1) = true := decide_eq_true c10
      clear c10
      by_cases c11 : x5_1 < (l1_0.length : Int)
      ·rw [if_pos c11] at H
       have c11b0 : decide (x5_1 < (l1_0.length : Int)) = true := decide_eq_true c11
       clear c11
       by_cases c12 : ((!((((rd_T37 l0_0 x5_1).f0.f0).toList) == (((rd_T37 l1_0 x5_1).f0.f0).toList)) || (!(((rd_T37 l0_0 x5_1).f0.f1) == ((rd_T37 l1_0 x5_1).f0.f1)))) || (!(((rd_T37 l0_0 x5_1).f1) == ((rd_T37 l1_0 x5_1).f1)))) = true
       ·rw [if_pos c12] at H
        have c12b0 : ((!((((rd_T37 l0_0 x5_1).f0.f0).toList) == (((rd_T37 l1_0 x5_1).f0.f0).toList)) || (!(((rd_T37 l0_0 x5_1).f0.f1) == ((rd_T37 l1_0 x5_1).f0.f1)))) || (!(((rd_T37 l0_0 x5_1).f1) == ((rd_T37 l1_0 x5_1).f1)))) = true := c12
        clear c12
        obtain rfl := Option.some.inj H
        have hnb13 := NB172_173.out
        have hnc13 := NB173_172.out
        have hcz14_0 : wr.cell? ⟨gb172, 0, none⟩ = some (.slice A0_0 l0_0.length c0_0) := (blk_cell BK172.out 0).trans rfl
        have hfz14_0 := blk_frozen BK172.out 0
        have p174 : 0 ≤ (x5_1 : Int) := of_decide_eq_true (by first | (with_reducible assumption) | assumption)
        have q174 : x5_1 < (l0_0.length : Int) := of_decide_eq_true (by first | (with_reducible assumption) | assumption)
        obtain ⟨ad174, e174, hx174_0, hx174_1, hx174_2⟩ := at_T37 HR0_0.out x5_1 p174 q174
        cases e174
        replace hx174_0 := (HB.out.cell (World.block_lt_of_cell? w _ hx174_0)).trans hx174_0
        replace hx174_1 := (HB.out.cell (World.block_lt_of_cell? w _ hx174_1)).trans hx174_1
        replace hx174_2 := (HB.out.cell (World.block_lt_of_cell? w _ hx174_2)).trans hx174_2
        replace p174 := eq_true p174
        replace q174 := eq_true q174
        have hcz15_0 : wr.cell? ⟨gb173, 0, none⟩ = some (.slice A1_0 l1_0.length c1_0) := (blk_cell BK173.out 0).trans rfl
        have hfz15_0 := blk_frozen BK173.out 0
        have p175 : 0 ≤ (x5_1 : Int) := of_decide_eq_true (by first | (with_reducible assumption) | assumption)
        have q175 : x5_1 < (l1_0.length : Int) := of_decide_eq_true (by first | (with_reducible assumption) | assumption)
        obtain ⟨ad175, e175, hx175_0, hx175_1, hx175_2⟩ := at_T37 HR1_0.out x5_1 p175 q175
        cases e175
        replace hx175_0 := (HB.out.cell (World.block_lt_of_cell? w _ hx175_0)).trans hx175_0
        replace hx175_1 := (HB.out.cell (World.block_lt_of_cell? w _ hx175_1)).trans hx175_1
        replace hx175_2 := (HB.out.cell (World.block_lt_of_cell? w _ hx175_2)).trans hx175_2
        replace p175 := eq_true p175
        replace q175 := eq_true q175
        go_wp2
        repeat (go_quiet (fail); try go_wp2)
        go_ret
        exact ⟨by first | rfl | (simp [errW_none, errW_some] <;> rfl) | (simp [*, errW_none, errW_some] <;> rfl), by repeat (first | (with_reducible first | exact HB.out | apply below_alloc | apply pw_below_drewN | apply below_drew1 | refine below_set ?_ GE172.out | refine below_set ?_ GE173.out) | exact HB.out)⟩
       ·rw [if_neg c12] at H
        have c12b0 : ((!((((rd_T37 l0_0 x5_1).f0.f0).toList) == (((rd_T37 l1_0 x5_1).f0.f0).toList)) || (!(((rd_T37 l0_0 x5_1).f0.f1) == ((rd_T37 l1_0 x5_1).f0.f1)))) || (!(((rd_T37 l0_0 x5_1).f1) == ((rd_T37 l1_0 x5_1).f1)))) = false := by simpa using c12
        clear c12
        have H' := Aside0.mk H
        clear H
        have hnb16 := NB172_173.out
        have hnc16 := NB173_172.out
        have hcz17_0 : wr.cell? ⟨gb172, 0, none⟩ = some (.slice A0_0 l0_0.length c0_0) := (blk_cell BK172.out 0).trans rfl
        have hfz17_0 := blk_frozen BK172.out 0
        have p174 : 0 ≤ (x5_1 : Int) := of_decide_eq_true (by first | (with_reducible assumption) | assumption)
        have q174 : x5_1 < (l0_0.length : Int) := of_decide_eq_true (by first | (with_reducible assumption) | assumption)
        obtain ⟨ad174, e174, hx174_0, hx174_1, hx174_2⟩ := at_T37 HR0_0.out x5_1 p174 q174
        cases e174
        replace hx174_0 := (HB.out.cell (World.block_lt_of_cell? w _ hx174_0)).trans hx174_0
        replace hx174_1 := (HB.out.cell (World.block_lt_of_cell? w _ hx174_1)).trans hx174_1
        replace hx174_2 := (HB.out.cell (World.block_lt_of_cell? w _ hx174_2)).trans hx174_2
        replace p174 := eq_true p174
        replace q174 := eq_true q174
        have hcz18_0 : wr.cell? ⟨gb173, 0, none⟩ = some (.slice A1_0 l1_0.length c1_0) := (blk_cell BK173.out 0).trans rfl
        have hfz18_0 := blk_frozen BK173.out 0
        have p175 : 0 ≤ (x5_1 : Int) := of_decide_eq_true (by first | (with_reducible assumption) | assumption)
        have q175 : x5_1 < (l1_0.length : Int) := of_decide_eq_true (by first | (with_reducible assumption) | assumption)
        obtain ⟨ad175, e175, hx175_0, hx175_1, hx175_2⟩ := at_T37 HR1_0.out x5_1 p175 q175
        cases e175
        replace hx175_0 := (HB.out.cell (World.block_lt_of_cell? w _ hx175_0)).trans hx175_0
        replace hx175_1 := (HB.out.cell (World.block_lt_of_cell? w _ hx175_1)).trans hx175_1
        replace hx175_2 := (HB.out.cell (World.block_lt_of_cell? w _ hx175_2)).trans hx175_2
        replace p175 := eq_true p175
        replace q175 := eq_true q175
        go_wp2
        repeat (go_quiet (fail); try go_wp2)
        go_roundg k1
        case measure => have := HK1.out; omega
        case rel => exact ⟨(wrap64 (x5_1 + 1)), (by first | rfl | (simp; done) | (simp [*]; done) | (simp; exact (fun l : List UInt8 => (by cases l <;> rfl : l.isEmpty = !(l != []))) _)), H', ⟨by have := HK1.out; omega⟩, ⟨by (with_reducible repeat (first | refine blk_drewN ?_ _ | refine blk_drew ?_ | refine blk_alloc ?_ _)); exact BK172.out⟩, ⟨by (with_reducible repeat (first | refine blk_drewN ?_ _ | refine blk_drew ?_ | refine blk_alloc ?_ _)); exact BK173.out⟩, ⟨by repeat (first | (with_reducible first | exact HB.out | apply below_alloc | apply pw_below_drewN | apply below_drew1 | refine below_set ?_ GE172.out | refine below_set ?_ GE173.out) | exact HB.out)⟩⟩
      ·rw [if_neg c11] at H
       exact absurd H (by simp)
     ·rw [if_neg c10] at H
      exact absurd H (by simp)
    ·rw [if_neg c9] at H
     have c9b0 : decide (x5_1 < (l0_0.length : Int)) = false := decide_eq_false c9
     clear c9
     obtain rfl := Option.some.inj H
     have hnb19 := NB172_173.out
     have hnc19 := NB173_172.out
     have hcz20_0 : wr.cell? ⟨gb172, 0, none⟩ = some (.slice A0_0 l0_0.length c0_0) := (blk_cell BK172.out 0).trans rfl
     have hfz20_0 := blk_frozen BK172.out 0
     go_wp2
     repeat (go_quiet (fail); try go_wp2)
     go_ret
     exact ⟨by first | rfl | (simp [errW_none, errW_some] <;> rfl) | (simp [*, errW_none, errW_some] <;> rfl), by repeat (first | (with_reducible first | exact HB.out | apply below_alloc | apply pw_below_drewN | apply below_drew1 | refine below_set ?_ GE172.out | refine below_set ?_ GE173.out) | exact HB.out)⟩
 ·rw [if_neg c3] at H
  have c3b0 : ((l0_0.length : Int) == (l1_0.length : Int)) = false := beq_eq_false_iff_ne.mpr c3
  have c3b1 : ((l0_0.length : Int) != (l1_0.length : Int)) = true := bne_iff_ne.mpr c3
  have c3b2 : (l0_0.length == l1_0.length) = false := by first | simpa using c3 | (simp at c3 ⊢; omega)
  obtain rfl := Option.some.inj H
  go_enter Tryd.func23, Tryd.ntmps23
  go_wp2_with (first | ((with_reducible refine gate_dst (N := 2) rfl ?_); refine box_event ?hg (N := 2) ?hd (cs := #[.slice A0_0 l0_0.length c0_0]) (t := 31) ?hr ?_; (case hd => rfl); (case hg => rfl); (case hr => first | (go_simp; done) | (go_simp; rfl)); intro gb172 hg w21 hbox hb; have n0_ := Aside0.mk (below_step (by repeat (first | (with_reducible first | exact HB.out | apply below_alloc | apply pw_below_drewN | apply below_drew1) | exact HB.out)) hb); have n1_ := Aside0.mk (hbox); have n2_ := Aside0.mk ((by rw [hg]; exact (below_size (by repeat (first | (with_reducible first | exact HB.out | apply below_alloc | apply pw_below_drewN | apply below_drew1) | exact HB.out))) : w.heap.size ≤ gb172)); have n3_ := Aside0.mk ((by rw [hg]; exact (below_size (by repeat (first | (with_reducible first | exact HB.out | apply below_alloc | apply pw_below_drewN | apply below_drew1) | exact HB.out))) : w.heap.size ≤ gb172)); clear HB; have HB := n0_; have BK172 := n1_; have GW172 := n2_; have GE172 := n3_; clear n0_ n1_ n2_ n3_; clear hb hbox hg) | ((with_reducible refine gate_dst (N := 3) rfl ?_); refine box_event ?hg (N := 3) ?hd (cs := #[.slice A1_0 l1_0.length c1_0]) (t := 31) ?hr ?_; (case hd => rfl); (case hg => rfl); (case hr => first | (go_simp; done) | (go_simp; rfl)); intro gb173 hg w22 hbox hb; have n0_ := Aside0.mk (blk_below (g := gb172) (o := .cells #[.slice A0_0 l0_0.length c0_0] 31 (0, 0)) (by (with_reducible repeat (first | refine blk_drewN ?_ _ | refine blk_drew ?_ | refine blk_alloc ?_ _)); exact BK172.out) hb); have n1_ := Aside0.mk (below_step (by repeat (first | (with_reducible first | exact HB.out | apply below_alloc | apply pw_below_drewN | apply below_drew1 | refine below_set ?_ GE172.out) | exact HB.out)) hb); have n2_ := Aside0.mk (hbox); have n3_ := Aside0.mk ((by rw [hg]; exact (below_size (by repeat (first | (with_reducible first | exact HB.out | apply below_alloc | apply pw_below_drewN | apply below_drew1 | refine below_set ?_ GE172.out) | exact HB.out))) : w.heap.size ≤ gb173)); have n4_ := Aside0.mk ((by rw [hg]; exact (below_size (by repeat (first | (with_reducible first | exact HB.out | apply below_alloc | apply pw_below_drewN | apply below_drew1 | refine below_set ?_ GE172.out) | exact HB.out))) : w.heap.size ≤ gb173)); have n5_ := Aside0.mk ((by rw [hg]; exact Nat.ne_of_lt (blk_lt (g := gb172) (o := .cells #[.slice A0_0 l0_0.length c0_0] 31 (0, 0)) (by (with_reducible repeat (first | refine blk_drewN ?_ _ | refine blk_drew ?_ | refine blk_alloc ?_ _)); exact BK172.out)) : gb172 ≠ gb173)); have n6_ := Aside0.mk ((by rw [hg]; exact Nat.ne_of_gt (blk_lt (g := gb172) (o := .cells #[.slice A0_0 l0_0.length c0_0] 31 (0, 0)) (by (with_reducible repeat (first | refine blk_drewN ?_ _ | refine blk_drew ?_ | refine blk_alloc ?_ _)); exact BK172.out)) : gb173 ≠ gb172)); clear BK172; clear HB; have BK172 := n0_; have HB := n1_; have BK173 := n2_; have GW173 := n3_; have GE173 := n4_; have NB172_173 := n5_; have NB173_172 := n6_; clear n0_ n1_ n2_ n3_ n4_ n5_ n6_; clear hb hbox hg; have hnb23 := NB172_173.out; have hnc23 := NB173_172.out; have hcz24_0 : w22.cell? ⟨gb172, 0, none⟩ = some (.slice A0_0 l0_0.length c0_0) := (blk_cell BK172.out 0).trans rfl; have hfz24_0 := blk_frozen BK172.out 0; have hcz25_0 : w22.cell? ⟨gb173, 0, none⟩ = some (.slice A1_0 l1_0.length c1_0) := (blk_cell BK173.out 0).trans rfl; have hfz25_0 := blk_frozen BK173.out 0))
  repeat (go_quiet (first | ((with_reducible refine gate_dst (N := 2) rfl ?_); refine box_event ?hg (N := 2) ?hd (cs := #[.slice A0_0 l0_0.length c0_0]) (t := 31) ?hr ?_; (case hd => rfl); (case hg => rfl); (case hr => first | (go_simp; done) | (go_simp; rfl)); intro gb172 hg w21 hbox hb; have n0_ := Aside0.mk (below_step (by repeat (first | (with_reducible first | exact HB.out | apply below_alloc | apply pw_below_drewN | apply below_drew1) | exact HB.out)) hb); have n1_ := Aside0.mk (hbox); have n2_ := Aside0.mk ((by rw [hg]; exact (below_size (by repeat (first | (with_reducible first | exact HB.out | apply below_alloc | apply pw_below_drewN | apply below_drew1) | exact HB.out))) : w.heap.size ≤ gb172)); have n3_ := Aside0.mk ((by rw [hg]; exact (below_size (by repeat (first | (with_reducible first | exact HB.out | apply below_alloc | apply pw_below_drewN | apply below_drew1) | exact HB.out))) : w.heap.size ≤ gb172)); clear HB; have HB := n0_; have BK172 := n1_; have GW172 := n2_; have GE172 := n3_; clear n0_ n1_ n2_ n3_; clear hb hbox hg) | ((with_reducible refine gate_dst (N := 3) rfl ?_); refine box_event ?hg (N := 3) ?hd (cs := #[.slice A1_0 l1_0.length c1_0]) (t := 31) ?hr ?_; (case hd => rfl); (case hg => rfl); (case hr => first | (go_simp; done) | (go_simp; rfl)); intro gb173 hg w22 hbox hb; have n0_ := Aside0.mk (blk_below (g := gb172) (o := .cells #[.slice A0_0 l0_0.length c0_0] 31 (0, 0)) (by (with_reducible repeat (first | refine blk_drewN ?_ _ | refine blk_drew ?_ | refine blk_alloc ?_ _)); exact BK172.out) hb); have n1_ := Aside0.mk (below_step (by repeat (first | (with_reducible first | exact HB.out | apply below_alloc | apply pw_below_drewN | apply below_drew1 | refine below_set ?_ GE172.out) | exact HB.out)) hb); have n2_ := Aside0.mk (hbox); have n3_ := Aside0.mk ((by rw [hg]; exact (below_size (by repeat (first | (with_reducible first | exact HB.out | apply below_alloc | apply pw_below_drewN | apply below_drew1 | refine below_set ?_ GE172.out) | exact HB.out))) : w.heap.size ≤ gb173)); have n4_ := Aside0.mk ((by rw [hg]; exact (below_size (by repeat (first | (with_reducible first | exact HB.out | apply below_alloc | apply pw_below_drewN | apply below_drew1 | refine below_set ?_ GE172.out) | exact HB.out))) : w.heap.size ≤ gb173)); have n5_ := Aside0.mk ((by rw [hg]; exact Nat.ne_of_lt (blk_lt (g := gb172) (o := .cells #[.slice A0_0 l0_0.length c0_0] 31 (0, 0)) (by (with_reducible repeat (first | refine blk_drewN ?_ _ | refine blk_drew ?_ | refine blk_alloc ?_ _)); exact BK172.out)) : gb172 ≠ gb173)); have n6_ := Aside0.mk ((by rw [hg]; exact Nat.ne_of_gt (blk_lt (g := gb172) (o := .cells #[.slice A0_0 l0_0.length c0_0] 31 (0, 0)) (by (with_reducible repeat (first | refine blk_drewN ?_ _ | refine blk_drew ?_ | refine blk_alloc ?_ _)); exact BK172.out)) : gb173 ≠ gb172)); clear BK172; clear HB; have BK172 := n0_; have HB := n1_; have BK173 := n2_; have GW173 := n3_; have GE173 := n4_; have NB172_173 := n5_; have NB173_172 := n6_; clear n0_ n1_ n2_ n3_ n4_ n5_ n6_; clear hb hbox hg; have hnb23 := NB172_173.out; have hnc23 := NB173_172.out; have hcz24_0 : w22.cell? ⟨gb172, 0, none⟩ = some (.slice A0_0 l0_0.length c0_0) := (blk_cell BK172.out 0).trans rfl; have hfz24_0 := blk_frozen BK172.out 0; have hcz25_0 : w22.cell? ⟨gb173, 0, none⟩ = some (.slice A1_0 l1_0.length c1_0) := (blk_cell BK173.out 0).trans rfl; have hfz25_0 := blk_frozen BK173.out 0)); try go_wp2_with (first | ((with_reducible refine gate_dst (N := 2) rfl ?_); refine box_event ?hg (N := 2) ?hd (cs := #[.slice A0_0 l0_0.length c0_0]) (t := 31) ?hr ?_; (case hd => rfl); (case hg => rfl); (case hr => first | (go_simp; done) | (go_simp; rfl)); intro gb172 hg w21 hbox hb; have n0_ := Aside0.mk (below_step (by repeat (first | (with_reducible first | exact HB.out | apply below_alloc | apply pw_below_drewN | apply below_drew1) | exact HB.out)) hb); have n1_ := Aside0.mk (hbox); have n2_ := Aside0.mk ((by rw [hg]; exact (below_size (by repeat (first | (with_reducible first | exact HB.out | apply below_alloc | apply pw_below_drewN | apply below_drew1) | exact HB.out))) : w.heap.size ≤ gb172)); have n3_ := Aside0.mk ((by rw [hg]; exact (below_size (by repeat (first | (with_reducible first | exact HB.out | apply below_alloc | apply pw_below_drewN | apply below_drew1) | exact HB.out))) : w.heap.size ≤ gb172)); clear HB; have HB := n0_; have BK172 := n1_; have GW172 := n2_; have GE172 := n3_; clear n0_ n1_ n2_ n3_; clear hb hbox hg) | ((with_reducible refine gate_dst (N := 3) rfl ?_); refine box_event ?hg (N := 3) ?hd (cs := #[.slice A1_0 l1_0.length c1_0]) (t := 31) ?hr ?_; (case hd => rfl); (case hg => rfl); (case hr => first | (go_simp; done) | (go_simp; rfl)); intro gb173 hg w22 hbox hb; have n0_ := Aside0.mk (blk_below (g := gb172) (o := .cells #[.slice A0_0 l0_0.length c0_0] 31 (0, 0)) (by (with_reducible repeat (first | refine blk_drewN ?_ _ | refine blk_drew ?_ | refine blk_alloc ?_ _)); exact BK172.out) hb); have n1_ := Aside0.mk (below_step (by repeat (first | (with_reducible first | exact HB.out | apply below_alloc | apply pw_below_drewN | apply below_drew1 | refine below_set ?_ GE172.out) | exact HB.out)) hb); have n2_ := Aside0.mk (hbox); have n3_ := Aside0.mk ((by rw [hg]; exact (below_size (by repeat (first | (with_reducible first | exact HB.out | apply below_alloc | apply pw_below_drewN | apply below_drew1 | refine below_set ?_ GE172.out) | exact HB.out))) : w.heap.size ≤ gb173)); have n4_ := Aside0.mk ((by rw [hg]; exact (below_size (by repeat (first | (with_reducible first | exact HB.out | apply below_alloc | apply pw_below_drewN | apply below_drew1 | refine below_set ?_ GE172.out) | exact HB.out))) : w.heap.size ≤ gb173)); have n5_ := Aside0.mk ((by rw [hg]; exact Nat.ne_of_lt (blk_lt (g := gb172) (o := .cells #[.slice A0_0 l0_0.length c0_0] 31 (0, 0)) (by (with_reducible repeat (first | refine blk_drewN ?_ _ | refine blk_drew ?_ | refine blk_alloc ?_ _)); exact BK172.out)) : gb172 ≠ gb173)); have n6_ := Aside0.mk ((by rw [hg]; exact Nat.ne_of_gt (blk_lt (g := gb172) (o := .cells #[.slice A0_0 l0_0.length c0_0] 31 (0, 0)) (by (with_reducible repeat (first | refine blk_drewN ?_ _ | refine blk_drew ?_ | refine blk_alloc ?_ _)); exact BK172.out)) : gb173 ≠ gb172)); clear BK172; clear HB; have BK172 := n0_; have HB := n1_; have BK173 := n2_; have GW173 := n3_; have GE173 := n4_; have NB172_173 := n5_; have NB173_172 := n6_; clear n0_ n1_ n2_ n3_ n4_ n5_ n6_; clear hb hbox hg; have hnb23 := NB172_173.out; have hnc23 := NB173_172.out; have hcz24_0 : w22.cell? ⟨gb172, 0, none⟩ = some (.slice A0_0 l0_0.length c0_0) := (blk_cell BK172.out 0).trans rfl; have hfz24_0 := blk_frozen BK172.out 0; have hcz25_0 : w22.cell? ⟨gb173, 0, none⟩ = some (.slice A1_0 l1_0.length c1_0) := (blk_cell BK173.out 0).trans rfl; have hfz25_0 := blk_frozen BK173.out 0)))
  go_ret
  exact ⟨by first | rfl | (simp [errW_none, errW_some] <;> rfl) | (simp [*, errW_none, errW_some] <;> rfl), by repeat (first | (with_reducible first | exact HB.out | apply below_alloc | apply pw_below_drewN | apply below_drew1 | refine below_set ?_ GE172.out | refine below_set ?_ GE173.out) | exact HB.out)⟩

end Go.Proofs.YtpmieapgbdbabaaDoor.QAll
end

section
/- Walks, written by a program of this session (wip/pp): a Go function comes to what the Lean function beside it tells. -/
namespace Go.Proofs.YtpmieapgbdbabaaDoor.QAll
open Go.RowKit Go.Proofs.YtpmieapgbdbabaaDoorW.PrintWords Go.Proofs.YtpmieapgbdbabaaDoorW.PrintLast Go.Proofs.YtpmieapgbdbabaaDoorW.PrintMore
attribute [local go_sem] max2_int min2_int max_two min_two max_three min_three max_four min_four
set_option linter.unusedVariables false
set_option linter.unusedSimpArgs false

mutual
def squelchref05_Back.j0 : Nat → Bool → List (S37) → Option ((List (S37)))
 | 0, _, _ => none
 | k + 1, x3, x177000 => if 1 < (x177000.length : Int) then (if 0 < (x177000.length : Int) then (squelchref05_Back.l0 k (wrap64 ((x177000.length : Int) - 1)) x177000 (([(⟨(⟨(rd_T37 x177000 1).f0.f0, (rd_T37 x177000 1).f0.f1⟩ : S23), !x3⟩ : S37), (⟨(⟨(rd_T37 x177000 0).f0.f0, (rd_T37 x177000 0).f0.f1⟩ : S23), x3⟩ : S37)] : List (S37)))) else (none)) else (none)
def squelchref05_Back.l0 : Nat → Int → List (S37) → List (S37) → Option ((List (S37)))
 | 0, _, _, _ => none
 | k + 1, x5, x177000, x186000 => if x5 ≥ 2 then (if 0 ≤ x5 then (if x5 < (x177000.length : Int) then (if x186000.length < 4398046511104 then (squelchref05_Back.l0 k (wrap64 (x5 - 1)) x177000 (x186000 ++ [(⟨(⟨(rd_T37 x177000 x5).f0.f0, (rd_T37 x177000 x5).f0.f1⟩ : S23), false⟩ : S37)])) else (none)) else (none)) else (none)) else (some x186000)
end
def squelchref05_Back.f (k : Nat) (l0_0 : List (S37)) : Option ((List (S37))) := if 0 < (l0_0.length : Int) then (if (rd_T37 l0_0 0).f1 = true then (if 1 < (l0_0.length : Int) then (squelchref05_Back.j0 k (!((rd_T37 l0_0 1).f1)) l0_0) else (none)) else (squelchref05_Back.j0 k false l0_0)) else (none)
def squelchref05_Back.T2 : Bool × List (List Nat × List Nat) := (true, [([], []), ([0], [0]), ([1], [1]), ([2], [2]), ([3], [3]), ([], []), ([5], [5]), ([4, 6], [4, 6]), ([], []), ([8], [8]), ([9], [9]), ([10], [10]), ([11], [11]), ([], []), ([12, 13], [12, 13]), ([7, 14], [7, 14]), ([15], [15]), ([], []), ([17, 16, 0, 1, 2, 3, 4, 5, 6, 7, 8, 9, 10, 11, 12, 13, 14, 15, 16, 17], [16, 17])])
def squelchref05_Back.B2 : List Nat := [0, 1, 3, 7, 15, 0, 32, 127, 0, 256, 768, 1792, 3840, 0, 16128, 32767, 65535, 0, 262143]
theorem squelchref05_Back.tab2 : rtab .any (opsOf Tryd.f24 2) = squelchref05_Back.T2 := by kernel_rfl
theorem squelchref05_Back.bits2 : waitsOk squelchref05_Back.T2.2 squelchref05_Back.B2 = true := by kernel_rfl
def squelchref05_Back.T6 : Bool × List (List Nat × List Nat) := (true, [([], []), ([0], [0]), ([], []), ([2], [2]), ([], []), ([3, 4], [3, 4]), ([5], [5]), ([6], [6]), ([7], [7]), ([8], [8]), ([1, 9], [1, 9]), ([0, 1, 2, 3, 4, 5, 6, 7, 8, 9, 10], []), ([11, 10, 10, 0, 1, 2, 3, 4, 5, 6, 7, 8, 9, 10], [10, 11])])
def squelchref05_Back.B6 : List Nat := [0, 1, 0, 4, 0, 28, 60, 124, 252, 508, 1023, 2047, 4095]
theorem squelchref05_Back.tab6 : rtab .any (opsOf Tryd.f24 6) = squelchref05_Back.T6 := by kernel_rfl
theorem squelchref05_Back.bits6 : waitsOk squelchref05_Back.T6.2 squelchref05_Back.B6 = true := by kernel_rfl
set_option maxHeartbeats 8000000 in
set_option maxRecDepth 100000 in
theorem squelchref05_Back.calls (k : Nat) (A0_0 : Option Addr) (c0_0 : Nat) (l0_0 : List (S37)) (r : List (S37)) (w : World) (hr0_0 : Kd.C k37 w A0_0 l0_0.length l0_0) (hc0_0 : l0_0.length ≤ c0_0) (h : squelchref05_Back.f k l0_0 = some r) :
  Calls Tryd.prog 24 #[.agg #[.slice A0_0 l0_0.length c0_0]] w fun e w' => ∃ v0_ : Value, e = .returned (.agg #[v0_]) ∧ Kd.R k37 37 w' w.heap.size (fun _ => True) v0_ r ∧ Below w.heap.size w w' := by
 have hu31 := Tryd.underlying31
 have hu23 := Tryd.underlying23
 have hu37 := Tryd.underlying37
 have HR0_0 := Aside0.mk hr0_0
 have HC0_0 := Aside0.mk hc0_0
 clear hr0_0 hc0_0
 have HB := Aside0.mk (Below.refl w.heap.size w)
 have H : (if 0 < (l0_0.length : Int) then (if (rd_T37 l0_0 0).f1 = true then (if 1 < (l0_0.length : Int) then (squelchref05_Back.j0 k (!((rd_T37 l0_0 1).f1)) l0_0) else (none)) else (squelchref05_Back.j0 k false l0_0)) else (none)) = some r := h
 clear h
 have HC2 := Aside0.mk H
 clear H
 go_enter Tryd.func24, Tryd.ntmps24
 go_upto_region 1 with (first | ((with_reducible refine gate_dst (N := 1) rfl ?_); refine box_event ?hg (N := 1) ?hd (cs := #[.slice A0_0 l0_0.length c0_0]) (t := 31) ?hr ?_; (case hd => rfl); (case hg => rfl); (case hr => first | (go_simp; done) | (go_simp; rfl)); intro gb176 hg w3 hbox hb; have n0_ := Aside0.mk (below_step (by repeat (first | (with_reducible first | exact HB.out | apply below_alloc | apply pw_below_drewN | apply below_drew1) | exact HB.out)) hb); have n1_ := Aside0.mk (hbox); have n2_ := Aside0.mk ((by rw [hg]; exact (below_size (by repeat (first | (with_reducible first | exact HB.out | apply below_alloc | apply pw_below_drewN | apply below_drew1) | exact HB.out))) : w.heap.size ≤ gb176)); have n3_ := Aside0.mk ((by rw [hg]; exact (below_size (by repeat (first | (with_reducible first | exact HB.out | apply below_alloc | apply pw_below_drewN | apply below_drew1) | exact HB.out))) : w.heap.size ≤ gb176)); clear HB; have HB := n0_; have BK176 := n1_; have GW176 := n2_; have GE176 := n3_; clear n0_ n1_ n2_ n3_; clear hb hbox hg) | ((with_reducible refine gate_dst (N := 2) rfl ?_); refine box_event ?hg (N := 2) ?hd (cs := #[.slice none 0 0]) (t := 31) ?hr ?_; (case hd => rfl); (case hg => rfl); (case hr => first | (go_simp; done) | (go_simp; rfl)); intro gb177 hg w4 hbox hb; have n0_ := Aside0.mk (blk_below (g := gb176) (o := .cells #[.slice A0_0 l0_0.length c0_0] 31 (0, 0)) (by (with_reducible repeat (first | refine blk_drewN ?_ _ | refine blk_drew ?_ | refine blk_alloc ?_ _)); exact BK176.out) hb); have n1_ := Aside0.mk (below_step (by repeat (first | (with_reducible first | exact HB.out | apply below_alloc | apply pw_below_drewN | apply below_drew1 | refine below_set ?_ GE176.out) | exact HB.out)) hb); have n2_ := Aside0.mk (hbox); have n3_ := Aside0.mk ((by rw [hg]; exact (below_size (by repeat (first | (with_reducible first | exact HB.out | apply below_alloc | apply pw_below_drewN | apply below_drew1 | refine below_set ?_ GE176.out) | exact HB.out))) : w.heap.size ≤ gb177)); have n4_ := Aside0.mk ((by rw [hg]; exact (below_size (by repeat (first | (with_reducible first | exact HB.out | apply below_alloc | apply pw_below_drewN | apply below_drew1 | refine below_set ?_ GE176.out) | exact HB.out))) : w.heap.size ≤ gb177)); have n5_ := Aside0.mk ((by rw [hg]; exact Nat.ne_of_lt (blk_lt (g := gb176) (o := .cells #[.slice A0_0 l0_0.length c0_0] 31 (0, 0)) (by (with_reducible repeat (first | refine blk_drewN ?_ _ | refine blk_drew ?_ | refine blk_alloc ?_ _)); exact BK176.out)) : gb176 ≠ gb177)); have n6_ := Aside0.mk ((by rw [hg]; exact Nat.ne_of_gt (blk_lt (g := gb176) (o := .cells #[.slice A0_0 l0_0.length c0_0] 31 (0, 0)) (by (with_reducible repeat (first | refine blk_drewN ?_ _ | refine blk_drew ?_ | refine blk_alloc ?_ _)); exact BK176.out)) : gb177 ≠ gb176)); clear BK176; clear HB; have BK176 := n0_; have HB := n1_; have BK177 := n2_; have GW177 := n3_; have GE177 := n4_; have NB176_177 := n5_; have NB177_176 := n6_; clear n0_ n1_ n2_ n3_ n4_ n5_ n6_; clear hb hbox hg))
 (try simp only [Act.put, List.setIfInBounds_toArray, List.set_cons_zero, List.set_cons_succ])
 go_cut [3] (fun v3 wc => ∃ (kq : Nat) (x3_1 : Bool), v3 = .bool x3_1 ∧ Aside0 (squelchref05_Back.j0 kq x3_1 l0_0 = some r) ∧ Aside0 (kq ≤ k) ∧ Aside0 (wc.heap[gb176]? = some (.cells #[(.slice A0_0 l0_0.length c0_0)] 31 (0, 0))) ∧ Aside0 (wc.heap[gb177]? = some (.cells #[(.slice none 0 0)] 31 (0, 0))) ∧ Aside0 (Below w.heap.size w wc))
 case first =>
  have H := HC2.out
  clear HC2
  by_cases c5 : 0 < (l0_0.length : Int)
  ·rw [if_pos c5] at H
   have c5b0 : decide (0 < (l0_0.length : Int)) = true := decide_eq_true c5
   have c5b1 : decide (0 < l0_0.length) = true := decide_eq_true (by omega)
   clear c5
   (first | rw [c5b0] | (simp only [i64_w, i32_w]; rw [c5b0]) | skip)
   obtain ⟨bq6, hbq6⟩ : ∃ b_ : Bool, b_ = ((rd_T37 l0_0 0).f1) := ⟨_, rfl⟩
   replace H : (if bq6 = true then (if 1 < (l0_0.length : Int) then (squelchref05_Back.j0 k (!((rd_T37 l0_0 1).f1)) l0_0) else (none)) else (squelchref05_Back.j0 k false l0_0)) = some r := by rw [← hbq6] at H; exact H
   have Nbq6 := Aside0.mk hbq6
   clear hbq6
   by_cases c7 : bq6 = true
   ·subst c7
    have H1 : (if 1 < (l0_0.length : Int) then (squelchref05_Back.j0 k (!((rd_T37 l0_0 1).f1)) l0_0) else (none)) = some r := by rw [if_pos rfl] at H; exact H
    clear H
    have H := H1
    clear H1
    by_cases c8 : 1 < (l0_0.length : Int)
    ·rw [if_pos c8] at H
     have c8b0 : decide (1 < (l0_0.length : Int)) = true := decide_eq_true c8
     have c8b1 : decide (1 < l0_0.length) = true := decide_eq_true (by omega)
     clear c8
     have H' := Aside0.mk H
     clear H
     have hnb9 := NB176_177.out
     have hnc9 := NB177_176.out
     have hcz10_0 : w4.cell? ⟨gb176, 0, none⟩ = some (.slice A0_0 l0_0.length c0_0) := (blk_cell BK176.out 0).trans rfl
     have hfz10_0 := blk_frozen BK176.out 0
     have p178 : 0 ≤ (0 : Int) := (by omega)
     have q178 : 0 < (l0_0.length : Int) := of_decide_eq_true (by first | (with_reducible assumption) | assumption)
     obtain ⟨ad178, e178, hx178_0, hx178_1, hx178_2⟩ := at_T37 HR0_0.out 0 p178 q178
     (try rw [← Nbq6.out] at hx178_2)
     cases e178
     have qi178 : (0 < l0_0.length) = True := eq_true (by omega)
     (try rw [show ((0 : Int)).toNat = 0 from rfl] at hx178_0)
     (try rw [show 0 * 3 = 0 from rfl] at hx178_0)
     (try rw [Addr.add_zero'] at hx178_0)
     (try rw [show ((0 : Int)).toNat = 0 from rfl] at hx178_1)
     (try rw [show 0 * 3 = 0 from rfl] at hx178_1)
     (try rw [Addr.add_zero'] at hx178_1)
     (try rw [show ((0 : Int)).toNat = 0 from rfl] at hx178_2)
     (try rw [show 0 * 3 = 0 from rfl] at hx178_2)
     (try rw [Addr.add_zero'] at hx178_2)
     replace hx178_0 := (HB.out.cell (World.block_lt_of_cell? w _ hx178_0)).trans hx178_0
     replace hx178_1 := (HB.out.cell (World.block_lt_of_cell? w _ hx178_1)).trans hx178_1
     replace hx178_2 := (HB.out.cell (World.block_lt_of_cell? w _ hx178_2)).trans hx178_2
     replace p178 := eq_true p178
     replace q178 := eq_true q178
     have p179 : 0 ≤ (1 : Int) := (by omega)
     have q179 : 1 < (l0_0.length : Int) := of_decide_eq_true (by first | (with_reducible assumption) | assumption)
     obtain ⟨ad179, e179, hx179_0, hx179_1, hx179_2⟩ := at_T37 HR0_0.out 1 p179 q179
     (try rw [← Nbq6.out] at hx179_2)
     obtain rfl : ad178 = ad179 := (by injection e179)
     (try simp only [show (1 : Int).toNat = 1 from rfl, Nat.reduceMul, Nat.reduceEqDiff, Go.Addr.add, ↓reduceIte] at hx179_0)
     (try simp only [show (1 : Int).toNat = 1 from rfl, Nat.reduceMul, Nat.reduceEqDiff, Go.Addr.add, ↓reduceIte] at hx179_1)
     (try simp only [show (1 : Int).toNat = 1 from rfl, Nat.reduceMul, Nat.reduceEqDiff, Go.Addr.add, ↓reduceIte] at hx179_2)
     have qi179 : (1 < l0_0.length) = True := eq_true (by omega)
     (try rw [show ((1 : Int)).toNat = 1 from rfl] at hx179_0)
     (try rw [show 1 * 3 = 3 from rfl] at hx179_0)
     (try rw [show ((1 : Int)).toNat = 1 from rfl] at hx179_1)
     (try rw [show 1 * 3 = 3 from rfl] at hx179_1)
     (try rw [show ((1 : Int)).toNat = 1 from rfl] at hx179_2)
     (try rw [show 1 * 3 = 3 from rfl] at hx179_2)
     replace hx179_0 := (HB.out.cell (World.block_lt_of_cell? w _ hx179_0)).trans hx179_0
     replace hx179_1 := (HB.out.cell (World.block_lt_of_cell? w _ hx179_1)).trans hx179_1
     replace hx179_2 := (HB.out.cell (World.block_lt_of_cell? w _ hx179_2)).trans hx179_2
     replace p179 := eq_true p179
     replace q179 := eq_true q179
     go_wp2
     go_meet
     case rel => exact ⟨_, (!((rd_T37 l0_0 1).f1)), (by first | rfl | (simp; done) | (simp [*]; done) | (simp; exact (fun l : List UInt8 => (by cases l <;> rfl : l.isEmpty = !(l != []))) _)), H', ⟨by first | omega | exact Nat.le_refl _⟩, ⟨by (with_reducible repeat (first | refine blk_drewN ?_ _ | refine blk_drew ?_ | refine blk_alloc ?_ _)); exact BK176.out⟩, ⟨by (with_reducible repeat (first | refine blk_drewN ?_ _ | refine blk_drew ?_ | refine blk_alloc ?_ _)); exact BK177.out⟩, ⟨by repeat (first | (with_reducible first | exact HB.out | apply below_alloc | apply pw_below_drewN | apply below_drew1 | refine below_set ?_ GE176.out | refine below_set ?_ GE177.out) | exact HB.out)⟩⟩
    ·rw [if_neg c8] at H
     exact absurd H (by simp)
   ·replace c7 := Bool.eq_false_iff.mpr c7
    subst c7
    have H1 : (squelchref05_Back.j0 k false l0_0) = some r := by rw [if_neg (show ¬ (false = true) by decide)] at H; exact H
    clear H
    have H := H1
    clear H1
    have H' := Aside0.mk H
    clear H
    have hnb11 := NB176_177.out
    have hnc11 := NB177_176.out
    have hcz12_0 : w4.cell? ⟨gb176, 0, none⟩ = some (.slice A0_0 l0_0.length c0_0) := (blk_cell BK176.out 0).trans rfl
    have hfz12_0 := blk_frozen BK176.out 0
    have p178 : 0 ≤ (0 : Int) := (by omega)
    have q178 : 0 < (l0_0.length : Int) := of_decide_eq_true (by first | (with_reducible assumption) | assumption)
    obtain ⟨ad178, e178, hx178_0, hx178_1, hx178_2⟩ := at_T37 HR0_0.out 0 p178 q178
    (try rw [← Nbq6.out] at hx178_2)
    cases e178
    have qi178 : (0 < l0_0.length) = True := eq_true (by omega)
    (try rw [show ((0 : Int)).toNat = 0 from rfl] at hx178_0)
    (try rw [show 0 * 3 = 0 from rfl] at hx178_0)
    (try rw [Addr.add_zero'] at hx178_0)
    (try rw [show ((0 : Int)).toNat = 0 from rfl] at hx178_1)
    (try rw [show 0 * 3 = 0 from rfl] at hx178_1)
    (try rw [Addr.add_zero'] at hx178_1)
    (try rw [show ((0 : Int)).toNat = 0 from rfl] at hx178_2)
    (try rw [show 0 * 3 = 0 from rfl] at hx178_2)
    (try rw [Addr.add_zero'] at hx178_2)
    replace hx178_0 := (HB.out.cell (World.block_lt_of_cell? w _ hx178_0)).trans hx178_0
    replace hx178_1 := (HB.out.cell (World.block_lt_of_cell? w _ hx178_1)).trans hx178_1
    replace hx178_2 := (HB.out.cell (World.block_lt_of_cell? w _ hx178_2)).trans hx178_2
    replace p178 := eq_true p178
    replace q178 := eq_true q178
    go_wp2
    go_meet
    case rel => exact ⟨_, (false), (by first | rfl | (simp; done) | (simp [*]; done) | (simp; exact (fun l : List UInt8 => (by cases l <;> rfl : l.isEmpty = !(l != []))) _)), H', ⟨by first | omega | exact Nat.le_refl _⟩, ⟨by (with_reducible repeat (first | refine blk_drewN ?_ _ | refine blk_drew ?_ | refine blk_alloc ?_ _)); exact BK176.out⟩, ⟨by (with_reducible repeat (first | refine blk_drewN ?_ _ | refine blk_drew ?_ | refine blk_alloc ?_ _)); exact BK177.out⟩, ⟨by repeat (first | (with_reducible first | exact HB.out | apply below_alloc | apply pw_below_drewN | apply below_drew1 | refine below_set ?_ GE176.out | refine below_set ?_ GE177.out) | exact HB.out)⟩⟩
  ·rw [if_neg c5] at H
   exact absurd H (by simp)
 case rest =>
  clear HC2
  try clear c1
  try clear p1
  try clear q1
  try clear hx1
  try clear qi1
  try clear c2
  try clear p2
  try clear c5
  try clear c5b0
  try clear c5b1
  try clear q6
  try clear c7
  try clear c8
  try clear c8b0
  try clear c8b1
  try clear c9
  try clear c11
  try clear hcz10_0
  try clear hcz12_0
  try clear hfz10_0
  try clear hfz12_0
  try clear hx178_0
  try clear hx178_1
  try clear hx178_2
  try clear hx179_0
  try clear hx179_1
  try clear hx179_2
  try clear p178
  try clear p179
  try clear q178
  try clear q179
  obtain ⟨kq, x3_1, rfl, HA, HJ1, BK176, BK177, HB⟩ := hcut
  cases kq with
  | zero => exact absurd HA.out (by simp [squelchref05_Back.j0])
  | succ kj1 =>
   have H := HA.out
   clear HA
   simp only [squelchref05_Back.j0] at H
   by_cases c13 : 1 < (l0_0.length : Int)
   ·rw [if_pos c13] at H
    have c13b0 : decide (1 < (l0_0.length : Int)) = true := decide_eq_true c13
    have c13b1 : decide (1 < l0_0.length) = true := decide_eq_true (by omega)
    clear c13
    by_cases c14 : 0 < (l0_0.length : Int)
    ·rw [if_pos c14] at H
     have c14b0 : decide (0 < (l0_0.length : Int)) = true := decide_eq_true c14
     have c14b1 : decide (0 < l0_0.length) = true := decide_eq_true (by omega)
     clear c14
     obtain ⟨y182, hy182⟩ : ∃ y_ : List (S37), y_ = (([(⟨(⟨(rd_T37 l0_0 1).f0.f0, (rd_T37 l0_0 1).f0.f1⟩ : S23), !x3_1⟩ : S37), (⟨(⟨(rd_T37 l0_0 0).f0.f0, (rd_T37 l0_0 0).f0.f1⟩ : S23), x3_1⟩ : S37)] : List (S37))) := ⟨_, rfl⟩
     replace H : (squelchref05_Back.l0 kj1 (wrap64 ((l0_0.length : Int) - 1)) l0_0 y182) = some r := by first | (rw [hy182]; with_reducible exact H) | (have H2_ := (Option.bind_some _ _).symm.trans H; rw [hy182]; with_reducible exact H2_) | (have H2_ := (Option.bind_some _ _).symm.trans H; with_reducible exact H2_) | with_reducible exact H | (rw [hy182]; exact H) | exact H
     have Ny182 := Aside0.mk hy182
     clear hy182
     have H' := Aside0.mk H
     clear H
     try go_wp2
     have n0_ := Aside0.mk (blk_drew BK176.out)
     have n1_ := Aside0.mk (blk_drew BK177.out)
     have n2_ := Aside0.mk (below_drew1 HB.out)
     clear BK176
     clear BK177
     clear HB
     have BK176 := n0_
     have BK177 := n1_
     have HB := n2_
     clear n0_ n1_ n2_
     have p180 : 0 ≤ (1 : Int) := (by omega)
     have q180 : 1 < (l0_0.length : Int) := of_decide_eq_true (by first | (with_reducible assumption) | assumption)
     obtain ⟨ad180, e180, hx180_0, hx180_1, hx180_2⟩ := at_T37 HR0_0.out 1 p180 q180
     have hw180_2 := hx180_2
     (try rw [show ((1 : Int)).toNat = 1 from rfl] at hw180_2)
     (try rw [show 1 * 3 = 3 from rfl] at hw180_2)
     (try simp only [Nat.reduceMul, Nat.reduceEqDiff, Go.Addr.add, ↓reduceIte] at hw180_2)
     have hw180_1 := hx180_1
     (try rw [show ((1 : Int)).toNat = 1 from rfl] at hw180_1)
     (try rw [show 1 * 3 = 3 from rfl] at hw180_1)
     (try simp only [Nat.reduceMul, Nat.reduceEqDiff, Go.Addr.add, ↓reduceIte] at hw180_1)
     have hw180_0 := hx180_0
     (try rw [show ((1 : Int)).toNat = 1 from rfl] at hw180_0)
     (try rw [show 1 * 3 = 3 from rfl] at hw180_0)
     (try simp only [Nat.reduceMul, Nat.reduceEqDiff, Go.Addr.add, ↓reduceIte] at hw180_0)
     cases e180
     (try simp only [show (1 : Int).toNat = 1 from rfl, Nat.reduceMul, Nat.reduceEqDiff, Go.Addr.add, ↓reduceIte] at hx180_0)
     (try simp only [show (1 : Int).toNat = 1 from rfl, Nat.reduceMul, Nat.reduceEqDiff, Go.Addr.add, ↓reduceIte] at hx180_1)
     (try simp only [show (1 : Int).toNat = 1 from rfl, Nat.reduceMul, Nat.reduceEqDiff, Go.Addr.add, ↓reduceIte] at hx180_2)
     have qi180 : (1 < l0_0.length) = True := eq_true (by omega)
     (try rw [show ((1 : Int)).toNat = 1 from rfl] at hx180_0)
     (try rw [show 1 * 3 = 3 from rfl] at hx180_0)
     (try rw [show ((1 : Int)).toNat = 1 from rfl] at hx180_1)
     (try rw [show 1 * 3 = 3 from rfl] at hx180_1)
     (try rw [show ((1 : Int)).toNat = 1 from rfl] at hx180_2)
     (try rw [show 1 * 3 = 3 from rfl] at hx180_2)
     replace hx180_0 := (HB.out.cell (World.block_lt_of_cell? w _ hx180_0)).trans hx180_0
     replace hx180_1 := (HB.out.cell (World.block_lt_of_cell? w _ hx180_1)).trans hx180_1
     replace hx180_2 := (HB.out.cell (World.block_lt_of_cell? w _ hx180_2)).trans hx180_2
     replace p180 := eq_true p180
     replace q180 := eq_true q180
     have p181 : 0 ≤ (0 : Int) := (by omega)
     have q181 : 0 < (l0_0.length : Int) := of_decide_eq_true (by first | (with_reducible assumption) | assumption)
     obtain ⟨ad181, e181, hx181_0, hx181_1, hx181_2⟩ := at_T37 HR0_0.out 0 p181 q181
     have hw181_2 := hx181_2
     (try rw [show ((0 : Int)).toNat = 0 from rfl] at hw181_2)
     (try rw [show 0 * 3 = 0 from rfl] at hw181_2)
     (try rw [Addr.add_zero'] at hw181_2)
     have hw181_1 := hx181_1
     (try rw [show ((0 : Int)).toNat = 0 from rfl] at hw181_1)
     (try rw [show 0 * 3 = 0 from rfl] at hw181_1)
     (try rw [Addr.add_zero'] at hw181_1)
     have hw181_0 := hx181_0
     (try rw [show ((0 : Int)).toNat = 0 from rfl] at hw181_0)
     (try rw [show 0 * 3 = 0 from rfl] at hw181_0)
     (try rw [Addr.add_zero'] at hw181_0)
     obtain rfl : ad180 = ad181 := (by injection e181)
     have qi181 : (0 < l0_0.length) = True := eq_true (by omega)
     (try rw [show ((0 : Int)).toNat = 0 from rfl] at hx181_0)
     (try rw [show 0 * 3 = 0 from rfl] at hx181_0)
     (try rw [Addr.add_zero'] at hx181_0)
     (try rw [show ((0 : Int)).toNat = 0 from rfl] at hx181_1)
     (try rw [show 0 * 3 = 0 from rfl] at hx181_1)
     (try rw [Addr.add_zero'] at hx181_1)
     (try rw [show ((0 : Int)).toNat = 0 from rfl] at hx181_2)
     (try rw [show 0 * 3 = 0 from rfl] at hx181_2)
     (try rw [Addr.add_zero'] at hx181_2)
     replace hx181_0 := (HB.out.cell (World.block_lt_of_cell? w _ hx181_0)).trans hx181_0
     replace hx181_1 := (HB.out.cell (World.block_lt_of_cell? w _ hx181_1)).trans hx181_1
     replace hx181_2 := (HB.out.cell (World.block_lt_of_cell? w _ hx181_2)).trans hx181_2
     replace p181 := eq_true p181
     replace q181 := eq_true q181
     refine start_ (n := 19) (S := fun w' => w'.cell? ⟨gb176, 0, none⟩ = some (.slice (some ad180) l0_0.length c0_0) ∧ w'.cell? ⟨ad180.block, ad180.off + 3, none⟩ = some (.string ((rd_T37 l0_0 1).f0.f0)) ∧ w'.cell? ⟨ad180.block, ad180.off + 3 + 1, none⟩ = some (.int .i64 ((rd_T37 l0_0 1).f0.f1)) ∧ w'.cell? ⟨ad180.block, ad180.off + 3 + 2, none⟩ = some (.bool ((rd_T37 l0_0 1).f1)) ∧ w'.cell? ad180 = some (.string ((rd_T37 l0_0 0).f0.f0)) ∧ w'.cell? ⟨ad180.block, ad180.off + 1, none⟩ = some (.int .i64 ((rd_T37 l0_0 0).f0.f1)) ∧ w'.cell? ⟨ad180.block, ad180.off + 2, none⟩ = some (.bool ((rd_T37 l0_0 0).f1))) (ds := []) #[false, false, false, false, false, false, false, false, false, false, false, false, false, false, false, false, false, false, false] (by kernel_rfl) rfl rfl ⟨(blk_cell BK176.out 0).trans rfl, ((HB.out.cell (World.block_lt_of_cell? w _ hw180_0)).trans hw180_0), ((HB.out.cell (World.block_lt_of_cell? w _ hw180_1)).trans hw180_1), ((HB.out.cell (World.block_lt_of_cell? w _ hw180_2)).trans hw180_2), ((HB.out.cell (World.block_lt_of_cell? w _ hw181_0)).trans hw181_0), ((HB.out.cell (World.block_lt_of_cell? w _ hw181_1)).trans hw181_1), ((HB.out.cell (World.block_lt_of_cell? w _ hw181_2)).trans hw181_2)⟩ (fun hHeld => ?_); refine with_tabW squelchref05_Back.tab2 squelchref05_Back.bits2 (fun HT_ HW_ => ?_)
     generalize wc.drew = w15 at BK176 BK177 HB hx180_0 hx180_1 hx180_2 hx181_0 hx181_1 hx181_2 hHeld ⊢
     refine pure_ (i := 0) (N := some 19) (v := ?_) (a' := ?_) #[true, false, false, false, false, false, false, false, false, false, false, false, false, false, false, false, false, false, false] rfl rfl (any_of HT_.out (by kernel_rfl)) (fun _ _ _ h => h) (Or.inl ⟨by rfl, ?_⟩) ?_ ?_
     rotate_left
     ·intro w'
      go_simp
      with_reducible rfl
     rotate_left
     ·simp only [Act.put, List.setIfInBounds_toArray, List.set_cons_zero, List.set_cons_succ, i64_w, i32_w]
      rfl
     refine pure_ (i := 5) (N := some 24) (v := ?_) (a' := ?_) #[true, false, false, false, false, true, false, false, false, false, false, false, false, false, false, false, false, false, false] rfl rfl (any_of HT_.out (by kernel_rfl)) (fun _ _ _ h => h) (Or.inl ⟨by rfl, ?_⟩) ?_ ?_
     rotate_left
     ·intro w'
      go_simp
      with_reducible rfl
     rotate_left
     ·simp only [Act.put, List.setIfInBounds_toArray, List.set_cons_zero, List.set_cons_succ, i64_w, i32_w]
      rfl
     refine pure_ (i := 6) (N := some 25) (v := ?_) (a' := ?_) #[true, false, false, false, false, true, true, false, false, false, false, false, false, false, false, false, false, false, false] rfl rfl (any_of HT_.out (by kernel_rfl)) (fun _ _ _ h => h) (Or.inl ⟨by rfl, ?_⟩) ?_ ?_
     rotate_left
     ·intro w'
      go_simp
      with_reducible rfl
     rotate_left
     ·simp only [Act.put, List.setIfInBounds_toArray, List.set_cons_zero, List.set_cons_succ, i64_w, i32_w]
      rfl
     refine pure_ (i := 8) (N := some 27) (v := ?_) (a' := ?_) #[true, false, false, false, false, true, true, false, true, false, false, false, false, false, false, false, false, false, false] rfl rfl (any_of HT_.out (by kernel_rfl)) (fun _ _ _ h => h) (Or.inl ⟨by rfl, ?_⟩) ?_ ?_
     rotate_left
     ·intro w'
      go_simp
      with_reducible rfl
     rotate_left
     ·simp only [Act.put, List.setIfInBounds_toArray, List.set_cons_zero, List.set_cons_succ, i64_w, i32_w]
      rfl
     refine pure_ (i := 13) (N := some 32) (v := ?_) (a' := ?_) #[true, false, false, false, false, true, true, false, true, false, false, false, false, true, false, false, false, false, false] rfl rfl (any_of HT_.out (by kernel_rfl)) (fun _ _ _ h => h) (Or.inl ⟨by rfl, ?_⟩) ?_ ?_
     rotate_left
     ·intro w'
      go_simp
      with_reducible rfl
     rotate_left
     ·simp only [Act.put, List.setIfInBounds_toArray, List.set_cons_zero, List.set_cons_succ, i64_w, i32_w]
      rfl
     refine take_ (i := 1) (N := some 20) (v := ?_) (a' := ?_) #[true, true, false, false, false, true, true, false, true, false, false, false, false, true, false, false, false, false, false] rfl rfl (take_ofW HT_.out HW_.out (by kernel_rfl)) (fun _ _ _ h => h) (Or.inl ⟨by rfl, ?_⟩) hHeld ?_ ?_
     rotate_left
     ·rintro w' ⟨s0, s1, s2, s3, s4, s5, s6⟩
      go_simp
      with_reducible rfl
     rotate_left
     ·simp only [Act.put, List.setIfInBounds_toArray, List.set_cons_zero, List.set_cons_succ, i64_w, i32_w]
      rfl
     refine pure_ (i := 2) (N := some 21) (v := ?_) (a' := ?_) #[true, true, true, false, false, true, true, false, true, false, false, false, false, true, false, false, false, false, false] rfl rfl (any_of HT_.out (by kernel_rfl)) (fun _ _ _ h => h) (Or.inl ⟨by rfl, ?_⟩) ?_ ?_
     rotate_left
     ·intro w'
      go_simp
      with_reducible rfl
     rotate_left
     ·simp only [Act.put, List.setIfInBounds_toArray, List.set_cons_zero, List.set_cons_succ, i64_w, i32_w]
      rfl
     refine pure_ (i := 3) (N := some 22) (v := ?_) (a' := ?_) #[true, true, true, true, false, true, true, false, true, false, false, false, false, true, false, false, false, false, false] rfl rfl (any_of HT_.out (by kernel_rfl)) (fun _ _ _ h => h) (Or.inl ⟨by rfl, ?_⟩) ?_ ?_
     rotate_left
     ·intro w'
      go_simp
      with_reducible rfl
     rotate_left
     ·simp only [Act.put, List.setIfInBounds_toArray, List.set_cons_zero, List.set_cons_succ, i64_w, i32_w]
      rfl
     refine take_ (i := 4) (N := some 23) (v := ?_) (a' := ?_) #[true, true, true, true, true, true, true, false, true, false, false, false, false, true, false, false, false, false, false] rfl rfl (take_ofW HT_.out HW_.out (by kernel_rfl)) (fun _ _ _ h => h) (Or.inl ⟨by rfl, ?_⟩) hHeld ?_ ?_
     rotate_left
     ·rintro w' ⟨s0, s1, s2, s3, s4, s5, s6⟩
      go_simp
      with_reducible rfl
     rotate_left
     ·simp only [Act.put, List.setIfInBounds_toArray, List.set_cons_zero, List.set_cons_succ, i64_w, i32_w]
      rfl
     refine pure_ (i := 7) (N := some 26) (v := ?_) (a' := ?_) #[true, true, true, true, true, true, true, true, true, false, false, false, false, true, false, false, false, false, false] rfl rfl (any_of HT_.out (by kernel_rfl)) (fun _ _ _ h => h) (Or.inl ⟨by rfl, ?_⟩) ?_ ?_
     rotate_left
     ·intro w'
      go_simp
      with_reducible rfl
     rotate_left
     ·simp only [Act.put, List.setIfInBounds_toArray, List.set_cons_zero, List.set_cons_succ, i64_w, i32_w]
      rfl
     refine take_ (i := 9) (N := some 28) (v := ?_) (a' := ?_) #[true, true, true, true, true, true, true, true, true, true, false, false, false, true, false, false, false, false, false] rfl rfl (take_ofW HT_.out HW_.out (by kernel_rfl)) (fun _ _ _ h => h) (Or.inl ⟨by rfl, ?_⟩) hHeld ?_ ?_
     rotate_left
     ·rintro w' ⟨s0, s1, s2, s3, s4, s5, s6⟩
      go_simp
      with_reducible rfl
     rotate_left
     ·simp only [Act.put, List.setIfInBounds_toArray, List.set_cons_zero, List.set_cons_succ, i64_w, i32_w]
      rfl
     refine pure_ (i := 10) (N := some 29) (v := ?_) (a' := ?_) #[true, true, true, true, true, true, true, true, true, true, true, false, false, true, false, false, false, false, false] rfl rfl (any_of HT_.out (by kernel_rfl)) (fun _ _ _ h => h) (Or.inl ⟨by rfl, ?_⟩) ?_ ?_
     rotate_left
     ·intro w'
      go_simp
      with_reducible rfl
     rotate_left
     ·simp only [Act.put, List.setIfInBounds_toArray, List.set_cons_zero, List.set_cons_succ, i64_w, i32_w]
      rfl
     refine pure_ (i := 11) (N := some 30) (v := ?_) (a' := ?_) #[true, true, true, true, true, true, true, true, true, true, true, true, false, true, false, false, false, false, false] rfl rfl (any_of HT_.out (by kernel_rfl)) (fun _ _ _ h => h) (Or.inl ⟨by rfl, ?_⟩) ?_ ?_
     rotate_left
     ·intro w'
      go_simp
      with_reducible rfl
     rotate_left
     ·simp only [Act.put, List.setIfInBounds_toArray, List.set_cons_zero, List.set_cons_succ, i64_w, i32_w]
      rfl
     refine take_ (i := 12) (N := some 31) (v := ?_) (a' := ?_) #[true, true, true, true, true, true, true, true, true, true, true, true, true, true, false, false, false, false, false] rfl rfl (take_ofW HT_.out HW_.out (by kernel_rfl)) (fun _ _ _ h => h) (Or.inl ⟨by rfl, ?_⟩) hHeld ?_ ?_
     rotate_left
     ·rintro w' ⟨s0, s1, s2, s3, s4, s5, s6⟩
      go_simp
      with_reducible rfl
     rotate_left
     ·simp only [Act.put, List.setIfInBounds_toArray, List.set_cons_zero, List.set_cons_succ, i64_w, i32_w]
      rfl
     refine pure_ (i := 14) (N := some 33) (v := ?_) (a' := ?_) #[true, true, true, true, true, true, true, true, true, true, true, true, true, true, true, false, false, false, false] rfl rfl (any_of HT_.out (by kernel_rfl)) (fun _ _ _ h => h) (Or.inl ⟨by rfl, ?_⟩) ?_ ?_
     rotate_left
     ·intro w'
      go_simp
      with_reducible rfl
     rotate_left
     ·simp only [Act.put, List.setIfInBounds_toArray, List.set_cons_zero, List.set_cons_succ, i64_w, i32_w]
      rfl
     refine join_ (σ := Value × Nat) 1 #[true, true, true, true, true, true, true, true, true, true, true, true, true, true, true, true, true, true, false] (fun s_ => [(34, s_.1), (4, .pointer (some ⟨s_.2, 0, none⟩)), (35, .agg #[s_.1])]) (fun s_ w' => (w'.cell? ⟨gb176, 0, none⟩ = some (.slice (some ad180) l0_0.length c0_0) ∧ w'.cell? ⟨ad180.block, ad180.off + 3, none⟩ = some (.string ((rd_T37 l0_0 1).f0.f0)) ∧ w'.cell? ⟨ad180.block, ad180.off + 3 + 1, none⟩ = some (.int .i64 ((rd_T37 l0_0 1).f0.f1)) ∧ w'.cell? ⟨ad180.block, ad180.off + 3 + 2, none⟩ = some (.bool ((rd_T37 l0_0 1).f1)) ∧ w'.cell? ad180 = some (.string ((rd_T37 l0_0 0).f0.f0)) ∧ w'.cell? ⟨ad180.block, ad180.off + 1, none⟩ = some (.int .i64 ((rd_T37 l0_0 0).f0.f1)) ∧ w'.cell? ⟨ad180.block, ad180.off + 2, none⟩ = some (.bool ((rd_T37 l0_0 0).f1))) ∧ (Kd.R k37 37 w' w.heap.size (fun _ => True) s_.1 y182) ∧ (w'.heap[gb176]? = some (.cells #[.slice (some ad180) l0_0.length c0_0] 31 (0, 0))) ∧ (w'.heap[gb177]? = some (.cells #[.slice none 0 0] 31 (0, 0))) ∧ (w'.heap[s_.2]? = some (.cells #[.slice none 0 0] 31 (0, 0))) ∧ (w.heap.size ≤ s_.2) ∧ (w.heap.size ≤ s_.2) ∧ (gb176 ≠ s_.2) ∧ (s_.2 ≠ gb176) ∧ (gb177 ≠ s_.2) ∧ (s_.2 ≠ gb177) ∧ (Below w.heap.size w w')) ?_ ?_
     rotate_left
     ·intro hCont
      refine two_ (i := 15) (j := 17) (Ni := some 34) (Nj := some 4) #[true, true, true, true, true, true, true, true, true, true, true, true, true, true, true, true, false, false, false] #[true, true, true, true, true, true, true, true, true, true, true, true, true, true, true, false, false, true, false] rfl rfl rfl rfl (two_of HT_.out (by kernel_rfl)) (by decide) (by decide) (fun K hK => ?_) (fun K hK => ?_)
      ·skip
       refine Kd.R_lit_step k37 _ 37 ?hg (N := 34) ?hd (xs := ([(⟨(⟨(rd_T37 l0_0 1).f0.f0, (rd_T37 l0_0 1).f0.f1⟩ : S23), !x3_1⟩ : S37), (⟨(⟨(rd_T37 l0_0 0).f0.f0, (rd_T37 l0_0 0).f0.f1⟩ : S23), x3_1⟩ : S37)] : List (S37))) (inner := [.string ((rd_T37 l0_0 1).f0.f0), .int .i64 ((rd_T37 l0_0 1).f0.f1), .bool (!x3_1), .string ((rd_T37 l0_0 0).f0.f0), .int .i64 ((rd_T37 l0_0 0).f0.f1), .bool x3_1]) (ok := fun _ => True) (okp := fun _ => True) ?hr ?hp (fun _ hk => hk) trivial (Below.refl _ _) (Nat.le_refl _) (by simp) ?_; (case hd => rfl); (case hg => rfl); (case hr => first | (go_simp; done) | (go_simp; rfl)); (case hp => exact (Reps.c3 (show Kd.M k37 _ _ _ (⟨(⟨(rd_T37 l0_0 1).f0.f0, (rd_T37 l0_0 1).f0.f1⟩ : S23), !x3_1⟩ : S37) [.string ((rd_T37 l0_0 1).f0.f0), .int .i64 ((rd_T37 l0_0 1).f0.f1), .bool (!x3_1)] from (k37_mkM _ _ _ (⟨(⟨(rd_T37 l0_0 1).f0.f0, (rd_T37 l0_0 1).f0.f1⟩ : S23), !x3_1⟩ : S37) )) (Reps.c3 (show Kd.M k37 _ _ _ (⟨(⟨(rd_T37 l0_0 0).f0.f0, (rd_T37 l0_0 0).f0.f1⟩ : S23), x3_1⟩ : S37) [.string ((rd_T37 l0_0 0).f0.f0), .int .i64 ((rd_T37 l0_0 0).f0.f1), .bool x3_1] from (k37_mkM _ _ _ (⟨(⟨(rd_T37 l0_0 0).f0.f0, (rd_T37 l0_0 0).f0.f1⟩ : S23), x3_1⟩ : S37) )) (Reps.none _ _))))
       intro v183 w16 ho17 hb hg_ hnew_
       clear hg_ hnew_
       (first | rw [← Ny182.out] at ho17 | (simp only [Int.reduceToNat] at ho17; rw [← Ny182.out] at ho17))
       have n0_ := Aside0.mk (Kd.R_lower ho17 (below_size (by repeat (first | (with_reducible first | exact HB.out | apply below_alloc | apply pw_below_drewN | apply below_drew1 | refine below_set ?_ GE176.out | refine below_set ?_ GE177.out) | exact HB.out))))
       have n1_ := Aside0.mk (blk_below (g := gb176) (o := .cells #[.slice (some ad180) l0_0.length c0_0] 31 (0, 0)) (by (with_reducible repeat (first | refine blk_drewN ?_ _ | refine blk_drew ?_ | refine blk_alloc ?_ _)); exact BK176.out) hb)
       have n2_ := Aside0.mk (blk_below (g := gb177) (o := .cells #[.slice none 0 0] 31 (0, 0)) (by (with_reducible repeat (first | refine blk_drewN ?_ _ | refine blk_drew ?_ | refine blk_alloc ?_ _)); exact BK177.out) hb)
       have n3_ := Aside0.mk (below_step (by repeat (first | (with_reducible first | exact HB.out | apply below_alloc | apply pw_below_drewN | apply below_drew1 | refine below_set ?_ GE176.out | refine below_set ?_ GE177.out) | exact HB.out)) hb)
       clear BK176
       clear BK177
       clear HB
       have HO184 := n0_
       have BK176 := n1_
       have BK177 := n2_
       have HB := n3_
       clear n0_ n1_ n2_ n3_
       clear hb ho17
       obtain ⟨Ao18, co18, eo18⟩ := Kd.R_slice HO184.out
       (first | subst eo18 | (injection eo18 with f1_ f2_ f3_; have f4_ := f1_.symm; have f5_ := f3_.symm; clear f1_ f2_ f3_; subst f4_; subst f5_))
       refine hK.out _ _ ⟨(blk_cell BK176.out 0).trans rfl, ((HB.out.cell (World.block_lt_of_cell? w _ hw180_0)).trans hw180_0), ((HB.out.cell (World.block_lt_of_cell? w _ hw180_1)).trans hw180_1), ((HB.out.cell (World.block_lt_of_cell? w _ hw180_2)).trans hw180_2), ((HB.out.cell (World.block_lt_of_cell? w _ hw181_0)).trans hw181_0), ((HB.out.cell (World.block_lt_of_cell? w _ hw181_1)).trans hw181_1), ((HB.out.cell (World.block_lt_of_cell? w _ hw181_2)).trans hw181_2)⟩ (fun hHeld => ?_)
       clear hK K
       refine norm_ (a' := ?_) ?_ ?_
       rotate_left
       ·show Act.put _ (some 34) _ = _
        simp only [Act.put, List.setIfInBounds_toArray, List.set_cons_zero, List.set_cons_succ, i64_w, i32_w]
        rfl
       refine pure_ (i := 16) (N := some 35) (v := ?_) (a' := ?_) #[true, true, true, true, true, true, true, true, true, true, true, true, true, true, true, true, true, false, false] rfl rfl (any_of HT_.out (by kernel_rfl)) (fun _ _ _ h => h) (Or.inl ⟨by rfl, ?_⟩) ?_ ?_
       rotate_left
       ·intro w'
        go_simp
        with_reducible rfl
       rotate_left
       ·simp only [Act.put, List.setIfInBounds_toArray, List.set_cons_zero, List.set_cons_succ, i64_w, i32_w]
        rfl
       refine one_ (i := 17) (N := some 4) #[true, true, true, true, true, true, true, true, true, true, true, true, true, true, true, true, true, true, false] rfl rfl (one_of HT_.out (by kernel_rfl)) (by decide) (fun K hK => ?_)
       refine box_step ?hg (N := 4) ?hd (cs := #[.slice none 0 0]) (t := 31) ?hr ?_; (case hd => rfl); (case hg => rfl); (case hr => first | (go_simp; done) | (go_simp; rfl))
       intro gb185 hg w19 hbox hb
       have n0_ := Aside0.mk (Kd.R_below (by (with_reducible repeat (first | apply Kd.R_alloc | apply Kd.R_drewN | apply Kd.R_drew)); exact HO184.out) hb)
       have n1_ := Aside0.mk (blk_below (g := gb176) (o := .cells #[.slice (some ad180) l0_0.length c0_0] 31 (0, 0)) (by (with_reducible repeat (first | refine blk_drewN ?_ _ | refine blk_drew ?_ | refine blk_alloc ?_ _)); exact BK176.out) hb)
       have n2_ := Aside0.mk (blk_below (g := gb177) (o := .cells #[.slice none 0 0] 31 (0, 0)) (by (with_reducible repeat (first | refine blk_drewN ?_ _ | refine blk_drew ?_ | refine blk_alloc ?_ _)); exact BK177.out) hb)
       have n3_ := Aside0.mk (below_step (by repeat (first | (with_reducible first | exact HB.out | apply below_alloc | apply pw_below_drewN | apply below_drew1 | refine below_set ?_ GE176.out | refine below_set ?_ GE177.out) | exact HB.out)) hb)
       have n4_ := Aside0.mk (hbox)
       have n5_ := Aside0.mk ((by rw [hg]; exact (below_size (by repeat (first | (with_reducible first | exact HB.out | apply below_alloc | apply pw_below_drewN | apply below_drew1 | refine below_set ?_ GE176.out | refine below_set ?_ GE177.out) | exact HB.out))) : w.heap.size ≤ gb185))
       have n6_ := Aside0.mk ((by rw [hg]; exact (below_size (by repeat (first | (with_reducible first | exact HB.out | apply below_alloc | apply pw_below_drewN | apply below_drew1 | refine below_set ?_ GE176.out | refine below_set ?_ GE177.out) | exact HB.out))) : w.heap.size ≤ gb185))
       have n7_ := Aside0.mk ((by rw [hg]; exact Nat.ne_of_lt (blk_lt (g := gb176) (o := .cells #[.slice (some ad180) l0_0.length c0_0] 31 (0, 0)) (by (with_reducible repeat (first | refine blk_drewN ?_ _ | refine blk_drew ?_ | refine blk_alloc ?_ _)); exact BK176.out)) : gb176 ≠ gb185))
       have n8_ := Aside0.mk ((by rw [hg]; exact Nat.ne_of_gt (blk_lt (g := gb176) (o := .cells #[.slice (some ad180) l0_0.length c0_0] 31 (0, 0)) (by (with_reducible repeat (first | refine blk_drewN ?_ _ | refine blk_drew ?_ | refine blk_alloc ?_ _)); exact BK176.out)) : gb185 ≠ gb176))
       have n9_ := Aside0.mk ((by rw [hg]; exact Nat.ne_of_lt (blk_lt (g := gb177) (o := .cells #[.slice none 0 0] 31 (0, 0)) (by (with_reducible repeat (first | refine blk_drewN ?_ _ | refine blk_drew ?_ | refine blk_alloc ?_ _)); exact BK177.out)) : gb177 ≠ gb185))
       have n10_ := Aside0.mk ((by rw [hg]; exact Nat.ne_of_gt (blk_lt (g := gb177) (o := .cells #[.slice none 0 0] 31 (0, 0)) (by (with_reducible repeat (first | refine blk_drewN ?_ _ | refine blk_drew ?_ | refine blk_alloc ?_ _)); exact BK177.out)) : gb185 ≠ gb177))
       clear HO184
       clear BK176
       clear BK177
       clear HB
       have HO184 := n0_
       have BK176 := n1_
       have BK177 := n2_
       have HB := n3_
       have BK185 := n4_
       have GW185 := n5_
       have GE185 := n6_
       have NB176_185 := n7_
       have NB185_176 := n8_
       have NB177_185 := n9_
       have NB185_177 := n10_
       clear n0_ n1_ n2_ n3_ n4_ n5_ n6_ n7_ n8_ n9_ n10_
       clear hb hbox hg
       refine hK.out _ _ ⟨(blk_cell BK176.out 0).trans rfl, ((HB.out.cell (World.block_lt_of_cell? w _ hw180_0)).trans hw180_0), ((HB.out.cell (World.block_lt_of_cell? w _ hw180_1)).trans hw180_1), ((HB.out.cell (World.block_lt_of_cell? w _ hw180_2)).trans hw180_2), ((HB.out.cell (World.block_lt_of_cell? w _ hw181_0)).trans hw181_0), ((HB.out.cell (World.block_lt_of_cell? w _ hw181_1)).trans hw181_1), ((HB.out.cell (World.block_lt_of_cell? w _ hw181_2)).trans hw181_2)⟩ (fun hHeld => ?_)
       clear hK K
       refine norm_ (a' := ?_) ?_ ?_
       rotate_left
       ·show Act.put _ (some 4) _ = _
        simp only [Act.put, List.setIfInBounds_toArray, List.set_cons_zero, List.set_cons_succ, i64_w, i32_w]
        rfl
       exact norm_ (by simp only [putAll, Act.put, List.setIfInBounds_toArray, List.set_cons_zero, List.set_cons_succ]) (hCont (.slice Ao18 y182.length co18, gb185) _ ⟨hHeld, (by (with_reducible repeat (first | apply Kd.R_alloc | apply Kd.R_drewN | apply Kd.R_drew)); exact HO184.out), (by (with_reducible repeat (first | refine blk_drewN ?_ _ | refine blk_drew ?_ | refine blk_alloc ?_ _)); exact BK176.out), (by (with_reducible repeat (first | refine blk_drewN ?_ _ | refine blk_drew ?_ | refine blk_alloc ?_ _)); exact BK177.out), (by (with_reducible repeat (first | refine blk_drewN ?_ _ | refine blk_drew ?_ | refine blk_alloc ?_ _)); exact BK185.out), GW185.out, GE185.out, NB176_185.out, NB185_176.out, NB177_185.out, NB185_177.out, (by repeat (first | (with_reducible first | exact HB.out | apply below_alloc | apply pw_below_drewN | apply below_drew1 | refine below_set ?_ GE176.out | refine below_set ?_ GE177.out | refine below_set ?_ GE185.out) | exact HB.out))⟩)
      ·skip
       refine box_step ?hg (N := 4) ?hd (cs := #[.slice none 0 0]) (t := 31) ?hr ?_; (case hd => rfl); (case hg => rfl); (case hr => first | (go_simp; done) | (go_simp; rfl))
       intro gb185 hg w16 hbox hb
       have n0_ := Aside0.mk (blk_below (g := gb176) (o := .cells #[.slice (some ad180) l0_0.length c0_0] 31 (0, 0)) (by (with_reducible repeat (first | refine blk_drewN ?_ _ | refine blk_drew ?_ | refine blk_alloc ?_ _)); exact BK176.out) hb)
       have n1_ := Aside0.mk (blk_below (g := gb177) (o := .cells #[.slice none 0 0] 31 (0, 0)) (by (with_reducible repeat (first | refine blk_drewN ?_ _ | refine blk_drew ?_ | refine blk_alloc ?_ _)); exact BK177.out) hb)
       have n2_ := Aside0.mk (below_step (by repeat (first | (with_reducible first | exact HB.out | apply below_alloc | apply pw_below_drewN | apply below_drew1 | refine below_set ?_ GE176.out | refine below_set ?_ GE177.out) | exact HB.out)) hb)
       have n3_ := Aside0.mk (hbox)
       have n4_ := Aside0.mk ((by rw [hg]; exact (below_size (by repeat (first | (with_reducible first | exact HB.out | apply below_alloc | apply pw_below_drewN | apply below_drew1 | refine below_set ?_ GE176.out | refine below_set ?_ GE177.out) | exact HB.out))) : w.heap.size ≤ gb185))
       have n5_ := Aside0.mk ((by rw [hg]; exact (below_size (by repeat (first | (with_reducible first | exact HB.out | apply below_alloc | apply pw_below_drewN | apply below_drew1 | refine below_set ?_ GE176.out | refine below_set ?_ GE177.out) | exact HB.out))) : w.heap.size ≤ gb185))
       have n6_ := Aside0.mk ((by rw [hg]; exact Nat.ne_of_lt (blk_lt (g := gb176) (o := .cells #[.slice (some ad180) l0_0.length c0_0] 31 (0, 0)) (by (with_reducible repeat (first | refine blk_drewN ?_ _ | refine blk_drew ?_ | refine blk_alloc ?_ _)); exact BK176.out)) : gb176 ≠ gb185))
       have n7_ := Aside0.mk ((by rw [hg]; exact Nat.ne_of_gt (blk_lt (g := gb176) (o := .cells #[.slice (some ad180) l0_0.length c0_0] 31 (0, 0)) (by (with_reducible repeat (first | refine blk_drewN ?_ _ | refine blk_drew ?_ | refine blk_alloc ?_ _)); exact BK176.out)) : gb185 ≠ gb176))
       have n8_ := Aside0.mk ((by rw [hg]; exact Nat.ne_of_lt (blk_lt (g := gb177) (o := .cells #[.slice none 0 0] 31 (0, 0)) (by (with_reducible repeat (first | refine blk_drewN ?_ _ | refine blk_drew ?_ | refine blk_alloc ?_ _)); exact BK177.out)) : gb177 ≠ gb185))
       have n9_ := Aside0.mk ((by rw [hg]; exact Nat.ne_of_gt (blk_lt (g := gb177) (o := .cells #[.slice none 0 0] 31 (0, 0)) (by (with_reducible repeat (first | refine blk_drewN ?_ _ | refine blk_drew ?_ | refine blk_alloc ?_ _)); exact BK177.out)) : gb185 ≠ gb177))
       clear BK176
       clear BK177
       clear HB
       have BK176 := n0_
       have BK177 := n1_
       have HB := n2_
       have BK185 := n3_
       have GW185 := n4_
       have GE185 := n5_
       have NB176_185 := n6_
       have NB185_176 := n7_
       have NB177_185 := n8_
       have NB185_177 := n9_
       clear n0_ n1_ n2_ n3_ n4_ n5_ n6_ n7_ n8_ n9_
       clear hb hbox hg
       refine hK.out _ _ ⟨(blk_cell BK176.out 0).trans rfl, ((HB.out.cell (World.block_lt_of_cell? w _ hw180_0)).trans hw180_0), ((HB.out.cell (World.block_lt_of_cell? w _ hw180_1)).trans hw180_1), ((HB.out.cell (World.block_lt_of_cell? w _ hw180_2)).trans hw180_2), ((HB.out.cell (World.block_lt_of_cell? w _ hw181_0)).trans hw181_0), ((HB.out.cell (World.block_lt_of_cell? w _ hw181_1)).trans hw181_1), ((HB.out.cell (World.block_lt_of_cell? w _ hw181_2)).trans hw181_2)⟩ (fun hHeld => ?_)
       clear hK K
       refine norm_ (a' := ?_) ?_ ?_
       rotate_left
       ·show Act.put _ (some 4) _ = _
        simp only [Act.put, List.setIfInBounds_toArray, List.set_cons_zero, List.set_cons_succ, i64_w, i32_w]
        rfl
       refine one_ (i := 15) (N := some 34) #[true, true, true, true, true, true, true, true, true, true, true, true, true, true, true, true, false, true, false] rfl rfl (one_of HT_.out (by kernel_rfl)) (by decide) (fun K hK => ?_)
       refine Kd.R_lit_step k37 _ 37 ?hg (N := 34) ?hd (xs := ([(⟨(⟨(rd_T37 l0_0 1).f0.f0, (rd_T37 l0_0 1).f0.f1⟩ : S23), !x3_1⟩ : S37), (⟨(⟨(rd_T37 l0_0 0).f0.f0, (rd_T37 l0_0 0).f0.f1⟩ : S23), x3_1⟩ : S37)] : List (S37))) (inner := [.string ((rd_T37 l0_0 1).f0.f0), .int .i64 ((rd_T37 l0_0 1).f0.f1), .bool (!x3_1), .string ((rd_T37 l0_0 0).f0.f0), .int .i64 ((rd_T37 l0_0 0).f0.f1), .bool x3_1]) (ok := fun _ => True) (okp := fun _ => True) ?hr ?hp (fun _ hk => hk) trivial (Below.refl _ _) (Nat.le_refl _) (by simp) ?_; (case hd => rfl); (case hg => rfl); (case hr => first | (go_simp; done) | (go_simp; rfl)); (case hp => exact (Reps.c3 (show Kd.M k37 _ _ _ (⟨(⟨(rd_T37 l0_0 1).f0.f0, (rd_T37 l0_0 1).f0.f1⟩ : S23), !x3_1⟩ : S37) [.string ((rd_T37 l0_0 1).f0.f0), .int .i64 ((rd_T37 l0_0 1).f0.f1), .bool (!x3_1)] from (k37_mkM _ _ _ (⟨(⟨(rd_T37 l0_0 1).f0.f0, (rd_T37 l0_0 1).f0.f1⟩ : S23), !x3_1⟩ : S37) )) (Reps.c3 (show Kd.M k37 _ _ _ (⟨(⟨(rd_T37 l0_0 0).f0.f0, (rd_T37 l0_0 0).f0.f1⟩ : S23), x3_1⟩ : S37) [.string ((rd_T37 l0_0 0).f0.f0), .int .i64 ((rd_T37 l0_0 0).f0.f1), .bool x3_1] from (k37_mkM _ _ _ (⟨(⟨(rd_T37 l0_0 0).f0.f0, (rd_T37 l0_0 0).f0.f1⟩ : S23), x3_1⟩ : S37) )) (Reps.none _ _))))
       intro v183 w17 ho18 hb hg_ hnew_
       clear hg_ hnew_
       (first | rw [← Ny182.out] at ho18 | (simp only [Int.reduceToNat] at ho18; rw [← Ny182.out] at ho18))
       have n0_ := Aside0.mk (Kd.R_lower ho18 (below_size (by repeat (first | (with_reducible first | exact HB.out | apply below_alloc | apply pw_below_drewN | apply below_drew1 | refine below_set ?_ GE176.out | refine below_set ?_ GE177.out | refine below_set ?_ GE185.out) | exact HB.out))))
       have n1_ := Aside0.mk (blk_below (g := gb176) (o := .cells #[.slice (some ad180) l0_0.length c0_0] 31 (0, 0)) (by (with_reducible repeat (first | refine blk_drewN ?_ _ | refine blk_drew ?_ | refine blk_alloc ?_ _)); exact BK176.out) hb)
       have n2_ := Aside0.mk (blk_below (g := gb177) (o := .cells #[.slice none 0 0] 31 (0, 0)) (by (with_reducible repeat (first | refine blk_drewN ?_ _ | refine blk_drew ?_ | refine blk_alloc ?_ _)); exact BK177.out) hb)
       have n3_ := Aside0.mk (blk_below (g := gb185) (o := .cells #[.slice none 0 0] 31 (0, 0)) (by (with_reducible repeat (first | refine blk_drewN ?_ _ | refine blk_drew ?_ | refine blk_alloc ?_ _)); exact BK185.out) hb)
       have n4_ := Aside0.mk (below_step (by repeat (first | (with_reducible first | exact HB.out | apply below_alloc | apply pw_below_drewN | apply below_drew1 | refine below_set ?_ GE176.out | refine below_set ?_ GE177.out | refine below_set ?_ GE185.out) | exact HB.out)) hb)
       clear BK176
       clear BK177
       clear BK185
       clear HB
       have HO184 := n0_
       have BK176 := n1_
       have BK177 := n2_
       have BK185 := n3_
       have HB := n4_
       clear n0_ n1_ n2_ n3_ n4_
       clear hb ho18
       obtain ⟨Ao19, co19, eo19⟩ := Kd.R_slice HO184.out
       (first | subst eo19 | (injection eo19 with f1_ f2_ f3_; have f4_ := f1_.symm; have f5_ := f3_.symm; clear f1_ f2_ f3_; subst f4_; subst f5_))
       refine hK.out _ _ ⟨(blk_cell BK176.out 0).trans rfl, ((HB.out.cell (World.block_lt_of_cell? w _ hw180_0)).trans hw180_0), ((HB.out.cell (World.block_lt_of_cell? w _ hw180_1)).trans hw180_1), ((HB.out.cell (World.block_lt_of_cell? w _ hw180_2)).trans hw180_2), ((HB.out.cell (World.block_lt_of_cell? w _ hw181_0)).trans hw181_0), ((HB.out.cell (World.block_lt_of_cell? w _ hw181_1)).trans hw181_1), ((HB.out.cell (World.block_lt_of_cell? w _ hw181_2)).trans hw181_2)⟩ (fun hHeld => ?_)
       clear hK K
       refine norm_ (a' := ?_) ?_ ?_
       rotate_left
       ·show Act.put _ (some 34) _ = _
        simp only [Act.put, List.setIfInBounds_toArray, List.set_cons_zero, List.set_cons_succ, i64_w, i32_w]
        rfl
       refine pure_ (i := 16) (N := some 35) (v := ?_) (a' := ?_) #[true, true, true, true, true, true, true, true, true, true, true, true, true, true, true, true, true, true, false] rfl rfl (any_of HT_.out (by kernel_rfl)) (fun _ _ _ h => h) (Or.inl ⟨by rfl, ?_⟩) ?_ ?_
       rotate_left
       ·intro w'
        go_simp
        with_reducible rfl
       rotate_left
       ·simp only [Act.put, List.setIfInBounds_toArray, List.set_cons_zero, List.set_cons_succ, i64_w, i32_w]
        rfl
       exact norm_ (by simp only [putAll, Act.put, List.setIfInBounds_toArray, List.set_cons_zero, List.set_cons_succ]) (hCont (.slice Ao19 y182.length co19, gb185) _ ⟨hHeld, (by (with_reducible repeat (first | apply Kd.R_alloc | apply Kd.R_drewN | apply Kd.R_drew)); exact HO184.out), (by (with_reducible repeat (first | refine blk_drewN ?_ _ | refine blk_drew ?_ | refine blk_alloc ?_ _)); exact BK176.out), (by (with_reducible repeat (first | refine blk_drewN ?_ _ | refine blk_drew ?_ | refine blk_alloc ?_ _)); exact BK177.out), (by (with_reducible repeat (first | refine blk_drewN ?_ _ | refine blk_drew ?_ | refine blk_alloc ?_ _)); exact BK185.out), GW185.out, GE185.out, NB176_185.out, NB185_176.out, NB177_185.out, NB185_177.out, (by repeat (first | (with_reducible first | exact HB.out | apply below_alloc | apply pw_below_drewN | apply below_drew1 | refine below_set ?_ GE176.out | refine below_set ?_ GE177.out | refine below_set ?_ GE185.out) | exact HB.out))⟩)
     rintro ⟨v183, gb185⟩ w20 ⟨hS_, h0_, h1_, h2_, h3_, h4_, h5_, h6_, h7_, h8_, h9_, h10_⟩
     have n0_ : Aside0 (Kd.R k37 37 w20 w.heap.size (fun _ => True) v183 y182) := ⟨h0_⟩
     have n1_ : Aside0 (w20.heap[gb176]? = some (.cells #[.slice (some ad180) l0_0.length c0_0] 31 (0, 0))) := ⟨h1_⟩
     have n2_ : Aside0 (w20.heap[gb177]? = some (.cells #[.slice none 0 0] 31 (0, 0))) := ⟨h2_⟩
     have n3_ : Aside0 (w20.heap[gb185]? = some (.cells #[.slice none 0 0] 31 (0, 0))) := ⟨h3_⟩
     have n4_ : Aside0 (w.heap.size ≤ gb185) := ⟨h4_⟩
     have n5_ : Aside0 (w.heap.size ≤ gb185) := ⟨h5_⟩
     have n6_ : Aside0 (gb176 ≠ gb185) := ⟨h6_⟩
     have n7_ : Aside0 (gb185 ≠ gb176) := ⟨h7_⟩
     have n8_ : Aside0 (gb177 ≠ gb185) := ⟨h8_⟩
     have n9_ : Aside0 (gb185 ≠ gb177) := ⟨h9_⟩
     have n10_ : Aside0 (Below w.heap.size w w20) := ⟨h10_⟩
     clear BK176
     clear BK177
     clear HB
     clear h0_ h1_ h2_ h3_ h4_ h5_ h6_ h7_ h8_ h9_ h10_
     have HO184 := n0_
     have BK176 := n1_
     have BK177 := n2_
     have BK185 := n3_
     have GW185 := n4_
     have GE185 := n5_
     have NB176_185 := n6_
     have NB185_176 := n7_
     have NB177_185 := n8_
     have NB185_177 := n9_
     have HB := n10_
     clear n0_ n1_ n2_ n3_ n4_ n5_ n6_ n7_ n8_ n9_ n10_
     have hHeld : w20.cell? ⟨gb176, 0, none⟩ = some (.slice (some ad180) l0_0.length c0_0) ∧ w20.cell? ⟨ad180.block, ad180.off + 3, none⟩ = some (.string ((rd_T37 l0_0 1).f0.f0)) ∧ w20.cell? ⟨ad180.block, ad180.off + 3 + 1, none⟩ = some (.int .i64 ((rd_T37 l0_0 1).f0.f1)) ∧ w20.cell? ⟨ad180.block, ad180.off + 3 + 2, none⟩ = some (.bool ((rd_T37 l0_0 1).f1)) ∧ w20.cell? ad180 = some (.string ((rd_T37 l0_0 0).f0.f0)) ∧ w20.cell? ⟨ad180.block, ad180.off + 1, none⟩ = some (.int .i64 ((rd_T37 l0_0 0).f0.f1)) ∧ w20.cell? ⟨ad180.block, ad180.off + 2, none⟩ = some (.bool ((rd_T37 l0_0 0).f1)) := hS_
     obtain ⟨Ao21, co21, eo21⟩ := Kd.R_slice HO184.out
     (first | subst eo21 | (injection eo21 with f1_ f2_ f3_; have f4_ := f1_.symm; have f5_ := f3_.symm; clear f1_ f2_ f3_; subst f4_; subst f5_))
     refine norm_ (a' := ?_) ?_ ?_
     rotate_left
     ·simp only [putAll, Act.put, List.setIfInBounds_toArray, List.set_cons_zero, List.set_cons_succ]
      rfl
     refine one_ (i := 18) (N := none) #[true, true, true, true, true, true, true, true, true, true, true, true, true, true, true, true, true, true, true] rfl rfl (one_of HT_.out (by kernel_rfl)) (by decide) (fun K hK => ?_)
     have hs22 : w20.cell? ⟨gb185, 0, none⟩ = some (.slice none 0 0) := (blk_cell BK185.out 0).trans rfl
     have hfs22 := blk_frozen BK185.out 0
     have hns22_0 := NB176_185.out
     have hns22_1 := NB177_185.out
     have hms22_0 := NB185_176.out
     have hms22_1 := NB185_177.out
     refine skip_ (w1 := ?_) (by rfl) rfl ?_ ?_
     rotate_left
     ·go_simp
      rfl
     refine hK.out _ _ ⟨((cell_far (p := ⟨gb185, _, none⟩) NB176_185.out _).trans (hHeld.1)), ((cell_far (p := ⟨gb185, _, none⟩) (by first | exact Nat.ne_of_lt (Nat.lt_of_lt_of_le (by have := World.block_lt_of_cell? _ _ hw180_0; first | rwa [add_block] at this | exact this) GW185.out) | (rw [add_block]; exact Nat.ne_of_lt (Nat.lt_of_lt_of_le (by have := World.block_lt_of_cell? _ _ hw180_0; first | rwa [add_block] at this | exact this) GW185.out)) | (show (Addr.add _ _).block ≠ _; rw [add_block]; exact Nat.ne_of_lt (Nat.lt_of_lt_of_le (by have := World.block_lt_of_cell? _ _ hw180_0; first | rwa [add_block] at this | exact this) GW185.out)) | (dsimp only; exact Nat.ne_of_lt (Nat.lt_of_lt_of_le (by have := World.block_lt_of_cell? _ _ hw180_0; first | rwa [add_block] at this | exact this) GW185.out))) _).trans (hHeld.2.1)), ((cell_far (p := ⟨gb185, _, none⟩) (by first | exact Nat.ne_of_lt (Nat.lt_of_lt_of_le (by have := World.block_lt_of_cell? _ _ hw180_1; first | rwa [add_block] at this | exact this) GW185.out) | (rw [add_block]; exact Nat.ne_of_lt (Nat.lt_of_lt_of_le (by have := World.block_lt_of_cell? _ _ hw180_1; first | rwa [add_block] at this | exact this) GW185.out)) | (show (Addr.add _ _).block ≠ _; rw [add_block]; exact Nat.ne_of_lt (Nat.lt_of_lt_of_le (by have := World.block_lt_of_cell? _ _ hw180_1; first | rwa [add_block] at this | exact this) GW185.out)) | (dsimp only; exact Nat.ne_of_lt (Nat.lt_of_lt_of_le (by have := World.block_lt_of_cell? _ _ hw180_1; first | rwa [add_block] at this | exact this) GW185.out))) _).trans (hHeld.2.2.1)), ((cell_far (p := ⟨gb185, _, none⟩) (by first | exact Nat.ne_of_lt (Nat.lt_of_lt_of_le (by have := World.block_lt_of_cell? _ _ hw180_2; first | rwa [add_block] at this | exact this) GW185.out) | (rw [add_block]; exact Nat.ne_of_lt (Nat.lt_of_lt_of_le (by have := World.block_lt_of_cell? _ _ hw180_2; first | rwa [add_block] at this | exact this) GW185.out)) | (show (Addr.add _ _).block ≠ _; rw [add_block]; exact Nat.ne_of_lt (Nat.lt_of_lt_of_le (by have := World.block_lt_of_cell? _ _ hw180_2; first | rwa [add_block] at this | exact this) GW185.out)) | (dsimp only; exact Nat.ne_of_lt (Nat.lt_of_lt_of_le (by have := World.block_lt_of_cell? _ _ hw180_2; first | rwa [add_block] at this | exact this) GW185.out))) _).trans (hHeld.2.2.2.1)), ((cell_far (p := ⟨gb185, _, none⟩) (by first | exact Nat.ne_of_lt (Nat.lt_of_lt_of_le (by have := World.block_lt_of_cell? _ _ hw181_0; first | rwa [add_block] at this | exact this) GW185.out) | (rw [add_block]; exact Nat.ne_of_lt (Nat.lt_of_lt_of_le (by have := World.block_lt_of_cell? _ _ hw181_0; first | rwa [add_block] at this | exact this) GW185.out)) | (show (Addr.add _ _).block ≠ _; rw [add_block]; exact Nat.ne_of_lt (Nat.lt_of_lt_of_le (by have := World.block_lt_of_cell? _ _ hw181_0; first | rwa [add_block] at this | exact this) GW185.out)) | (dsimp only; exact Nat.ne_of_lt (Nat.lt_of_lt_of_le (by have := World.block_lt_of_cell? _ _ hw181_0; first | rwa [add_block] at this | exact this) GW185.out))) _).trans (hHeld.2.2.2.2.1)), ((cell_far (p := ⟨gb185, _, none⟩) (by first | exact Nat.ne_of_lt (Nat.lt_of_lt_of_le (by have := World.block_lt_of_cell? _ _ hw181_1; first | rwa [add_block] at this | exact this) GW185.out) | (rw [add_block]; exact Nat.ne_of_lt (Nat.lt_of_lt_of_le (by have := World.block_lt_of_cell? _ _ hw181_1; first | rwa [add_block] at this | exact this) GW185.out)) | (show (Addr.add _ _).block ≠ _; rw [add_block]; exact Nat.ne_of_lt (Nat.lt_of_lt_of_le (by have := World.block_lt_of_cell? _ _ hw181_1; first | rwa [add_block] at this | exact this) GW185.out)) | (dsimp only; exact Nat.ne_of_lt (Nat.lt_of_lt_of_le (by have := World.block_lt_of_cell? _ _ hw181_1; first | rwa [add_block] at this | exact this) GW185.out))) _).trans (hHeld.2.2.2.2.2.1)), ((cell_far (p := ⟨gb185, _, none⟩) (by first | exact Nat.ne_of_lt (Nat.lt_of_lt_of_le (by have := World.block_lt_of_cell? _ _ hw181_2; first | rwa [add_block] at this | exact this) GW185.out) | (rw [add_block]; exact Nat.ne_of_lt (Nat.lt_of_lt_of_le (by have := World.block_lt_of_cell? _ _ hw181_2; first | rwa [add_block] at this | exact this) GW185.out)) | (show (Addr.add _ _).block ≠ _; rw [add_block]; exact Nat.ne_of_lt (Nat.lt_of_lt_of_le (by have := World.block_lt_of_cell? _ _ hw181_2; first | rwa [add_block] at this | exact this) GW185.out)) | (dsimp only; exact Nat.ne_of_lt (Nat.lt_of_lt_of_le (by have := World.block_lt_of_cell? _ _ hw181_2; first | rwa [add_block] at this | exact this) GW185.out))) _).trans (hHeld.2.2.2.2.2.2))⟩ (fun hHeld => ?_)
     clear hK K
     refine done_ (done_of HT_.out (by kernel_rfl)) ?_
     have hnb23 := NB176_177.out
     have hnc23 := NB177_176.out
     have hnb24 := NB176_185.out
     have hnc24 := NB185_176.out
     have hcz25_0 : w20.cell? ⟨gb176, 0, none⟩ = some (.slice (some ad180) l0_0.length c0_0) := (blk_cell BK176.out 0).trans rfl
     have hfz25_0 := blk_frozen BK176.out 0
     try go_wp2
     go_loopg [5] kj1 (fun kq v5 w' => ∃ (x5_2 : Int) (x186000_2 : List (S37)) (u186000 : Value), v5 = .int .i64 x5_2 ∧ Aside0 (squelchref05_Back.l0 kq x5_2 l0_0 x186000_2 = some r) ∧ Aside0 (kq ≤ kj1) ∧ Aside0 (Kd.R k37 37 w' w.heap.size (fun _ => True) u186000 x186000_2) ∧ Aside0 (w'.heap[gb176]? = some (.cells #[(.slice (some ad180) l0_0.length c0_0)] 31 (0, 0))) ∧ Aside0 (w'.heap[gb177]? = some (.cells #[(.slice none 0 0)] 31 (0, 0))) ∧ Aside0 (w'.heap[gb185]? = some (.cells #[u186000] 31 (0, 0))) ∧ Aside0 (Below w.heap.size w w'))
     case atStart => exact ⟨(wrap64 ((l0_0.length : Int) - 1)), (y182), (.slice Ao21 y182.length co21), (by first | rfl | (simp; done) | (simp [*]; done) | (simp; exact (fun l : List UInt8 => (by cases l <;> rfl : l.isEmpty = !(l != []))) _)), H', ⟨Nat.le_refl _⟩, ⟨by (with_reducible repeat (first | apply Kd.R_alloc | apply Kd.R_drewN | apply Kd.R_drew)); exact Kd.R_mono (Kd.R_far (p := ⟨gb185, 0, none⟩) (Kd.R_types HO184.out BK185.out (by decide)) (fun _ hk => hk.2) (.slice Ao21 y182.length co21)) (fun _ hk => trivial)⟩, ⟨by (with_reducible repeat (first | refine blk_drewN ?_ _ | refine blk_drew ?_ | refine blk_alloc ?_ _)); refine blk_far ?_ NB176_185.out _; (with_reducible repeat (first | refine blk_drewN ?_ _ | refine blk_drew ?_ | refine blk_alloc ?_ _)); exact BK176.out⟩, ⟨by (with_reducible repeat (first | refine blk_drewN ?_ _ | refine blk_drew ?_ | refine blk_alloc ?_ _)); refine blk_far ?_ NB177_185.out _; (with_reducible repeat (first | refine blk_drewN ?_ _ | refine blk_drew ?_ | refine blk_alloc ?_ _)); exact BK177.out⟩, ⟨by (with_reducible repeat (first | refine blk_drewN ?_ _ | refine blk_drew ?_ | refine blk_alloc ?_ _)); refine blk_put (cs := #[.slice none 0 0]) ?_ 0 _ rfl; (with_reducible repeat (first | refine blk_drewN ?_ _ | refine blk_drew ?_ | refine blk_alloc ?_ _)); exact BK185.out⟩, ⟨by repeat (first | (with_reducible first | exact HB.out | apply below_alloc | apply pw_below_drewN | apply below_drew1 | refine below_set ?_ GE176.out | refine below_set ?_ GE177.out | refine below_set ?_ GE185.out) | exact HB.out)⟩⟩
     case round =>
      clear H'
      try clear c1
      try clear p1
      try clear q1
      try clear hx1
      try clear qi1
      try clear c2
      try clear p2
      try clear c3
      try clear c5
      try clear c5b0
      try clear c5b1
      try clear p6
      try clear q6
      try clear c7
      try clear c8
      try clear c8b0
      try clear c8b1
      try clear c9
      try clear c11
      try clear c13
      try clear c13b0
      try clear c13b1
      try clear c14
      try clear c14b0
      try clear c14b1
      try clear p17
      try clear q17
      try clear hx17
      try clear qi17
      try clear p18
      try clear q18
      try clear hx18
      try clear qi18
      try clear c23
      try clear c24
      try clear hcz10_0
      try clear hcz12_0
      try clear hcz25_0
      try clear hfz10_0
      try clear hfz12_0
      try clear hfz25_0
      try clear hx178_0
      try clear hx178_1
      try clear hx178_2
      try clear hx179_0
      try clear hx179_1
      try clear hx179_2
      try clear hx180_0
      try clear hx180_1
      try clear hx180_2
      try clear hx181_0
      try clear hx181_1
      try clear hx181_2
      try clear p1
      try clear p178
      try clear p179
      try clear p180
      try clear p181
      try clear p2
      try clear q1
      try clear q178
      try clear q179
      try clear q180
      try clear q181
      try clear q6
      obtain ⟨x5_2, x186000_2, u186000, rfl, HA, HK2, HO_186000, BK176, BK177, BK185, HB⟩ := hrel
      cases gk with
      | zero => exact absurd HA.out (by simp [squelchref05_Back.l0])
      | succ k2 =>
       have H := HA.out
       clear HA
       simp only [squelchref05_Back.l0] at H
       by_cases c26 : x5_2 ≥ 2
       ·rw [if_pos c26] at H
        have c26b0 : decide (2 ≤ x5_2) = true := decide_eq_true c26
        clear c26
        by_cases c27 : 0 ≤ x5_2
        ·rw [if_pos c27] at H
         have c27b0 : decide (0 ≤ x5_2) = true := decide_eq_true c27
         clear c27
         by_cases c28 : x5_2 < (l0_0.length : Int)
         ·rw [if_pos c28] at H
          have c28b0 : decide (x5_2 < (l0_0.length : Int)) = true := decide_eq_true c28
          clear c28
          by_cases c29 : x186000_2.length < 4398046511104
          ·rw [if_pos c29] at H
           have LMc29 := Aside0.mk c29
           clear c29
           obtain ⟨y187, hy187⟩ : ∃ y_ : List (S37), y_ = (x186000_2 ++ [(⟨(⟨(rd_T37 l0_0 x5_2).f0.f0, (rd_T37 l0_0 x5_2).f0.f1⟩ : S23), false⟩ : S37)]) := ⟨_, rfl⟩
           replace H : (squelchref05_Back.l0 k2 (wrap64 (x5_2 - 1)) l0_0 y187) = some r := by first | (rw [hy187]; with_reducible exact H) | (have H2_ := (Option.bind_some _ _).symm.trans H; rw [hy187]; with_reducible exact H2_) | (have H2_ := (Option.bind_some _ _).symm.trans H; with_reducible exact H2_) | with_reducible exact H | (rw [hy187]; exact H) | exact H
           have Ny187 := Aside0.mk hy187
           clear hy187
           have H' := Aside0.mk H
           clear H
           try go_wp2
           have n0_ := Aside0.mk (Kd.R_drew HO_186000.out)
           have n1_ := Aside0.mk (blk_drew BK176.out)
           have n2_ := Aside0.mk (blk_drew BK177.out)
           have n3_ := Aside0.mk (blk_drew BK185.out)
           have n4_ := Aside0.mk (below_drew1 HB.out)
           clear HO_186000
           clear BK176
           clear BK177
           clear BK185
           clear HB
           have HO_186000 := n0_
           have BK176 := n1_
           have BK177 := n2_
           have BK185 := n3_
           have HB := n4_
           clear n0_ n1_ n2_ n3_ n4_
           have p186 : 0 ≤ (x5_2 : Int) := of_decide_eq_true (by first | (with_reducible assumption) | assumption)
           have q186 : x5_2 < (l0_0.length : Int) := of_decide_eq_true (by first | (with_reducible assumption) | assumption)
           obtain ⟨ad186, e186, hx186_0, hx186_1, hx186_2⟩ := at_T37 HR0_0.out x5_2 p186 q186
           have hw186_2 := hx186_2
           have hw186_1 := hx186_1
           have hw186_0 := hx186_0
           obtain rfl : ad180 = ad186 := (by injection e186)
           replace hx186_0 := (HB.out.cell (World.block_lt_of_cell? w _ hx186_0)).trans hx186_0
           replace hx186_1 := (HB.out.cell (World.block_lt_of_cell? w _ hx186_1)).trans hx186_1
           replace hx186_2 := (HB.out.cell (World.block_lt_of_cell? w _ hx186_2)).trans hx186_2
           replace p186 := eq_true p186
           replace q186 := eq_true q186
           refine start_ (n := 13) (S := fun w' => w'.cell? ⟨gb185, 0, none⟩ = some (u186000) ∧ w'.cell? ⟨gb176, 0, none⟩ = some (.slice (some ad180) l0_0.length c0_0) ∧ w'.cell? (ad180.add ((x5_2).toNat * 3)) = some (.string ((rd_T37 l0_0 x5_2).f0.f0)) ∧ w'.cell? ⟨(ad180.add ((x5_2).toNat * 3)).block, (ad180.add ((x5_2).toNat * 3)).off + 1, none⟩ = some (.int .i64 ((rd_T37 l0_0 x5_2).f0.f1)) ∧ w'.cell? ⟨(ad180.add ((x5_2).toNat * 3)).block, (ad180.add ((x5_2).toNat * 3)).off + 2, none⟩ = some (.bool ((rd_T37 l0_0 x5_2).f1))) (ds := [12]) #[false, false, false, false, false, false, false, false, false, false, false, false, false] (by kernel_rfl) rfl rfl ⟨(blk_cell BK185.out 0).trans rfl, (blk_cell BK176.out 0).trans rfl, ((HB.out.cell (World.block_lt_of_cell? w _ hw186_0)).trans hw186_0), ((HB.out.cell (World.block_lt_of_cell? w _ hw186_1)).trans hw186_1), ((HB.out.cell (World.block_lt_of_cell? w _ hw186_2)).trans hw186_2)⟩ (fun hHeld => ?_); refine with_tabW squelchref05_Back.tab6 squelchref05_Back.bits6 (fun HT_ HW_ => ?_)
           generalize wr.drew = w30 at HO_186000 BK176 BK177 BK185 HB hx186_0 hx186_1 hx186_2 hHeld ⊢
           refine pure_ (i := 0) (N := some 44) (v := ?_) (a' := ?_) #[true, false, false, false, false, false, false, false, false, false, false, false, false] rfl rfl (any_of HT_.out (by kernel_rfl)) (fun _ _ _ h => h) (Or.inl ⟨by rfl, ?_⟩) ?_ ?_
           rotate_left
           ·intro w'
            go_simp
            with_reducible rfl
           rotate_left
           ·simp only [Act.put, List.setIfInBounds_toArray, List.set_cons_zero, List.set_cons_succ, i64_w, i32_w]
            rfl
           refine pure_ (i := 2) (N := some 46) (v := ?_) (a' := ?_) #[true, false, true, false, false, false, false, false, false, false, false, false, false] rfl rfl (any_of HT_.out (by kernel_rfl)) (fun _ _ _ h => h) (Or.inl ⟨by rfl, ?_⟩) ?_ ?_
           rotate_left
           ·intro w'
            go_simp
            with_reducible rfl
           rotate_left
           ·simp only [Act.put, List.setIfInBounds_toArray, List.set_cons_zero, List.set_cons_succ, i64_w, i32_w]
            rfl
           refine pure_ (i := 4) (N := some 48) (v := ?_) (a' := ?_) #[true, false, true, false, true, false, false, false, false, false, false, false, false] rfl rfl (any_of HT_.out (by kernel_rfl)) (fun _ _ _ h => h) (Or.inl ⟨by rfl, ?_⟩) ?_ ?_
           rotate_left
           ·intro w'
            go_simp
            with_reducible rfl
           rotate_left
           ·simp only [Act.put, List.setIfInBounds_toArray, List.set_cons_zero, List.set_cons_succ, i64_w, i32_w]
            rfl
           refine take_ (i := 1) (N := some 45) (v := ?_) (a' := ?_) #[true, true, true, false, true, false, false, false, false, false, false, false, false] rfl rfl (take_ofW HT_.out HW_.out (by kernel_rfl)) (fun _ _ _ h => h) (Or.inl ⟨by rfl, ?_⟩) hHeld ?_ ?_
           rotate_left
           ·rintro w' ⟨s0, s1, s2, s3, s4⟩
            go_simp
            with_reducible rfl
           rotate_left
           ·simp only [Act.put, List.setIfInBounds_toArray, List.set_cons_zero, List.set_cons_succ, i64_w, i32_w]
            rfl
           refine take_ (i := 3) (N := some 47) (v := ?_) (a' := ?_) #[true, true, true, true, true, false, false, false, false, false, false, false, false] rfl rfl (take_ofW HT_.out HW_.out (by kernel_rfl)) (fun _ _ _ h => h) (Or.inl ⟨by rfl, ?_⟩) hHeld ?_ ?_
           rotate_left
           ·rintro w' ⟨s0, s1, s2, s3, s4⟩
            go_simp
            with_reducible rfl
           rotate_left
           ·simp only [Act.put, List.setIfInBounds_toArray, List.set_cons_zero, List.set_cons_succ, i64_w, i32_w]
            rfl
           refine pure_ (i := 5) (N := some 49) (v := ?_) (a' := ?_) #[true, true, true, true, true, true, false, false, false, false, false, false, false] rfl rfl (any_of HT_.out (by kernel_rfl)) (fun _ _ _ h => h) (Or.inl ⟨by rfl, ?_⟩) ?_ ?_
           rotate_left
           ·intro w'
            go_simp
            with_reducible rfl
           rotate_left
           ·simp only [Act.put, List.setIfInBounds_toArray, List.set_cons_zero, List.set_cons_succ, i64_w, i32_w]
            rfl
           refine pure_ (i := 6) (N := some 50) (v := ?_) (a' := ?_) #[true, true, true, true, true, true, true, false, false, false, false, false, false] rfl rfl (any_of HT_.out (by kernel_rfl)) (fun _ _ _ h => h) (Or.inl ⟨by rfl, ?_⟩) ?_ ?_
           rotate_left
           ·intro w'
            go_simp
            with_reducible rfl
           rotate_left
           ·simp only [Act.put, List.setIfInBounds_toArray, List.set_cons_zero, List.set_cons_succ, i64_w, i32_w]
            rfl
           refine take_ (i := 7) (N := some 51) (v := ?_) (a' := ?_) #[true, true, true, true, true, true, true, true, false, false, false, false, false] rfl rfl (take_ofW HT_.out HW_.out (by kernel_rfl)) (fun _ _ _ h => h) (Or.inl ⟨by rfl, ?_⟩) hHeld ?_ ?_
           rotate_left
           ·rintro w' ⟨s0, s1, s2, s3, s4⟩
            go_simp
            with_reducible rfl
           rotate_left
           ·simp only [Act.put, List.setIfInBounds_toArray, List.set_cons_zero, List.set_cons_succ, i64_w, i32_w]
            rfl
           refine pure_ (i := 8) (N := some 52) (v := ?_) (a' := ?_) #[true, true, true, true, true, true, true, true, true, false, false, false, false] rfl rfl (any_of HT_.out (by kernel_rfl)) (fun _ _ _ h => h) (Or.inl ⟨by rfl, ?_⟩) ?_ ?_
           rotate_left
           ·intro w'
            go_simp
            with_reducible rfl
           rotate_left
           ·simp only [Act.put, List.setIfInBounds_toArray, List.set_cons_zero, List.set_cons_succ, i64_w, i32_w]
            rfl
           refine one_ (i := 9) (N := some 53) #[true, true, true, true, true, true, true, true, true, true, false, false, false] rfl rfl (one_of HT_.out (by kernel_rfl)) (by decide) (fun K hK => ?_)
           refine value_ (w1 := ?_) (v := ?_) (by rfl) rfl ?_ ?_
           rotate_left 2
           ·go_simp
            constructor
            ·rfl
            ·rfl
           refine hK.out _ _ ⟨(blk_cell (blk_alloc BK185.out _) 0).trans rfl, (blk_cell (blk_alloc BK176.out _) 0).trans rfl, (World.cell?_alloc_lt _ _ _ (World.block_lt_of_cell? _ _ (((HB.out.cell (World.block_lt_of_cell? w _ hw186_0)).trans hw186_0)))).trans (((HB.out.cell (World.block_lt_of_cell? w _ hw186_0)).trans hw186_0)), (World.cell?_alloc_lt _ _ _ (World.block_lt_of_cell? _ _ (((HB.out.cell (World.block_lt_of_cell? w _ hw186_1)).trans hw186_1)))).trans (((HB.out.cell (World.block_lt_of_cell? w _ hw186_1)).trans hw186_1)), (World.cell?_alloc_lt _ _ _ (World.block_lt_of_cell? _ _ (((HB.out.cell (World.block_lt_of_cell? w _ hw186_2)).trans hw186_2)))).trans (((HB.out.cell (World.block_lt_of_cell? w _ hw186_2)).trans hw186_2))⟩ (fun hHeld => ?_)
           clear hK K
           refine norm_ (a' := ?_) ?_ ?_
           rotate_left
           ·show Act.put _ (some 53) _ = _
            simp only [Act.put, List.setIfInBounds_toArray, List.set_cons_zero, List.set_cons_succ, i64_w, i32_w]
            rfl
           refine one_ (i := 10) (N := some 54) #[true, true, true, true, true, true, true, true, true, true, true, false, false] rfl rfl (one_of HT_.out (by kernel_rfl)) (by decide) (fun K hK => ?_)
           refine Kd.R_append_step k37 (w0 := w) w.heap.size (by rfl) (.tmp 45) (.tmp 53) 29 37 (.agg #[(.string ⟨#[]⟩), (.int .i64 0), (.bool false)]) 32 rfl Tryd.underlying29 info37 rfl (by decide) (by omega) u186000 x186000_2 (⟨(⟨(rd_T37 l0_0 x5_2).f0.f0, (rd_T37 l0_0 x5_2).f0.f1⟩ : S23), false⟩ : S37) [.string ((rd_T37 l0_0 x5_2).f0.f0), .int .i64 ((rd_T37 l0_0 x5_2).f0.f1), .bool false] (fun _ => True) (fun _ => False) rfl rfl ?aP (fun _ hk => hk.elim) ?aF ?aO ?aB ?aS ?aL ?_
           (case aP => exact k37_mkM _ _ _ (⟨(⟨(rd_T37 l0_0 x5_2).f0.f0, (rd_T37 l0_0 x5_2).f0.f1⟩ : S23), false⟩ : S37))
           (case aB => exact (by repeat (first | (with_reducible first | exact HB.out | apply below_alloc | apply pw_below_drewN | apply below_drew1 | refine below_set ?_ GE176.out | refine below_set ?_ GE177.out | refine below_set ?_ GE185.out) | exact HB.out)))
           (case aF => exact (fun _ _ => trivial))
           (case aO => exact (by (with_reducible repeat (first | apply Kd.R_alloc | apply Kd.R_drewN | apply Kd.R_drew)); exact HO_186000.out))
           (case aS => exact (below_size (by repeat (first | (with_reducible first | exact HB.out | apply below_alloc | apply pw_below_drewN | apply below_drew1 | refine below_set ?_ GE176.out | refine below_set ?_ GE177.out | refine below_set ?_ GE185.out) | exact HB.out))))
           (case aL => have := LMc29.out; omega)
           intro v188 w31 ho hb hg hat
           rw [← Ny187.out] at ho
           have n0_ := Aside0.mk (blk_grown (g := gb176) (o := .cells #[.slice (some ad180) l0_0.length c0_0] 31 (0, 0)) (by (with_reducible repeat (first | refine blk_drewN ?_ _ | refine blk_drew ?_ | refine blk_alloc ?_ _)); exact BK176.out) hg (Kd.R_ne HO_186000.out BK176.out (by decide)))
           have n1_ := Aside0.mk (blk_grown (g := gb177) (o := .cells #[.slice none 0 0] 31 (0, 0)) (by (with_reducible repeat (first | refine blk_drewN ?_ _ | refine blk_drew ?_ | refine blk_alloc ?_ _)); exact BK177.out) hg (Kd.R_ne HO_186000.out BK177.out (by decide)))
           have n2_ := Aside0.mk (blk_grown (g := gb185) (o := .cells #[u186000] 31 (0, 0)) (by (with_reducible repeat (first | refine blk_drewN ?_ _ | refine blk_drew ?_ | refine blk_alloc ?_ _)); exact BK185.out) hg (Kd.R_ne HO_186000.out BK185.out (by decide)))
           have n3_ := Aside0.mk (hb)
           have n4_ := Aside0.mk (ho)
           clear BK176
           clear BK177
           clear BK185
           clear HB
           clear HO_186000
           have BK176 := n0_
           have BK177 := n1_
           have BK185 := n2_
           have HB := n3_
           have HO189 := n4_
           clear n0_ n1_ n2_ n3_ n4_
           clear ho hb hg hat
           obtain ⟨Ao32, co32, eo32⟩ := Kd.R_slice HO189.out
           (first | subst eo32 | (injection eo32 with f1_ f2_ f3_; have f4_ := f1_.symm; have f5_ := f3_.symm; clear f1_ f2_ f3_; subst f4_; subst f5_))
           refine hK.out _ _ ⟨(blk_cell BK185.out 0).trans rfl, (blk_cell BK176.out 0).trans rfl, ((HB.out.cell (World.block_lt_of_cell? w _ hw186_0)).trans hw186_0), ((HB.out.cell (World.block_lt_of_cell? w _ hw186_1)).trans hw186_1), ((HB.out.cell (World.block_lt_of_cell? w _ hw186_2)).trans hw186_2)⟩ (fun hHeld => ?_)
           clear hK K
           refine norm_ (a' := ?_) ?_ ?_
           rotate_left
           ·show Act.put _ (some 54) _ = _
            simp only [Act.put, List.setIfInBounds_toArray, List.set_cons_zero, List.set_cons_succ, i64_w, i32_w]
            rfl
           refine pure_ (i := 11) (N := some 55) (v := ?_) (a' := ?_) #[true, true, true, true, true, true, true, true, true, true, true, true, false] rfl rfl (any_of HT_.out (by kernel_rfl)) (fun _ _ _ h => h) (Or.inl ⟨by rfl, ?_⟩) ?_ ?_
           rotate_left
           ·intro w'
            go_simp
            with_reducible rfl
           rotate_left
           ·simp only [Act.put, List.setIfInBounds_toArray, List.set_cons_zero, List.set_cons_succ, i64_w, i32_w]
            rfl
           refine last_ (i := 12) (N := none) #[true, true, true, true, true, true, true, true, true, true, true, true, true] rfl rfl (one_of HT_.out (by kernel_rfl)) (by decide) (fun K hK => ?_)
           have hs33 : w31.cell? ⟨gb185, 0, none⟩ = some (u186000) := (blk_cell BK185.out 0).trans rfl
           have hfs33 := blk_frozen BK185.out 0
           have hns33_0 := NB176_185.out
           have hns33_1 := NB177_185.out
           have hms33_0 := NB185_176.out
           have hms33_1 := NB185_177.out
           refine skip_ (w1 := ?_) (by rfl) rfl ?_ ?_
           rotate_left
           ·go_simp
            rfl
           refine hK.out _ _ ?_
           clear hK K
           refine done_ (done_of HT_.out (by kernel_rfl)) ?_
           try go_wp2
           go_roundg k2
           case measure => have := HJ1.out; have := HK2.out; omega
           case rel => exact ⟨(wrap64 (x5_2 - 1)), (y187), (.slice Ao32 y187.length co32), (by first | rfl | (simp; done) | (simp [*]; done) | (simp; exact (fun l : List UInt8 => (by cases l <;> rfl : l.isEmpty = !(l != []))) _)), H', ⟨by have := HJ1.out; have := HK2.out; omega⟩, ⟨by (with_reducible repeat (first | apply Kd.R_alloc | apply Kd.R_drewN | apply Kd.R_drew)); exact Kd.R_mono (Kd.R_far (p := ⟨gb185, 0, none⟩) (Kd.R_types HO189.out BK185.out (by decide)) (fun _ hk => hk.2) (.slice Ao32 y187.length co32)) (fun _ hk => trivial)⟩, ⟨by (with_reducible repeat (first | refine blk_drewN ?_ _ | refine blk_drew ?_ | refine blk_alloc ?_ _)); refine blk_far ?_ NB176_185.out _; (with_reducible repeat (first | refine blk_drewN ?_ _ | refine blk_drew ?_ | refine blk_alloc ?_ _)); exact BK176.out⟩, ⟨by (with_reducible repeat (first | refine blk_drewN ?_ _ | refine blk_drew ?_ | refine blk_alloc ?_ _)); refine blk_far ?_ NB177_185.out _; (with_reducible repeat (first | refine blk_drewN ?_ _ | refine blk_drew ?_ | refine blk_alloc ?_ _)); exact BK177.out⟩, ⟨by (with_reducible repeat (first | refine blk_drewN ?_ _ | refine blk_drew ?_ | refine blk_alloc ?_ _)); refine blk_put (cs := #[u186000]) ?_ 0 _ rfl; (with_reducible repeat (first | refine blk_drewN ?_ _ | refine blk_drew ?_ | refine blk_alloc ?_ _)); exact BK185.out⟩, ⟨by repeat (first | (with_reducible first | exact HB.out | apply below_alloc | apply pw_below_drewN | apply below_drew1 | refine below_set ?_ GE176.out | refine below_set ?_ GE177.out | refine below_set ?_ GE185.out) | exact HB.out)⟩⟩
          ·rw [if_neg c29] at H
           exact absurd H (by simp)
         ·rw [if_neg c28] at H
          exact absurd H (by simp)
        ·rw [if_neg c27] at H
         exact absurd H (by simp)
       ·rw [if_neg c26] at H
        have c26b0 : decide (2 ≤ x5_2) = false := decide_eq_false c26
        clear c26
        obtain rfl := Option.some.inj H
        have hnb34 := NB185_176.out
        have hnc34 := NB176_185.out
        have hnb35 := NB185_177.out
        have hnc35 := NB177_185.out
        have hcz36_0 : wr.cell? ⟨gb185, 0, none⟩ = some (u186000) := (blk_cell BK185.out 0).trans rfl
        have hfz36_0 := blk_frozen BK185.out 0
        obtain ⟨Ao37, co37, eo37⟩ := Kd.R_slice HO_186000.out
        subst eo37
        have hnb38 := NB177_176.out
        have hnc38 := NB176_177.out
        have hcz39_0 : wr.cell? ⟨gb177, 0, none⟩ = some (.slice none 0 0) := (blk_cell BK177.out 0).trans rfl
        have hfz39_0 := blk_frozen BK177.out 0
        go_wp2
        refine bodyPost_ret (results_cell_row rfl _ _ gb177 31 #[.slice Ao37 x186000_2.length co37] (0, 0) _ rfl (by (with_reducible repeat (first | refine blk_drewN ?_ _ | refine blk_drew ?_ | refine blk_alloc ?_ _)); refine blk_put (cs := #[.slice none 0 0]) ?_ 0 _ rfl; (with_reducible repeat (first | refine blk_drewN ?_ _ | refine blk_drew ?_ | refine blk_alloc ?_ _)); exact BK177.out) Tryd.underlying31 rfl (by kernel_rfl)) rfl ?_
        exact ⟨_, by first | rfl | (simp [errW_none, errW_some] <;> rfl) | (simp [*, errW_none, errW_some] <;> rfl), by (with_reducible repeat (first | apply Kd.R_alloc | apply Kd.R_drewN | apply Kd.R_drew)); exact Kd.R_mono (Kd.R_far (p := ⟨gb177, 0, none⟩) (Kd.R_types HO_186000.out BK177.out (by decide)) (fun _ hk => hk.2) (.slice Ao37 x186000_2.length co37)) (fun _ hk => trivial), by repeat (first | (with_reducible first | exact HB.out | apply below_alloc | apply pw_below_drewN | apply below_drew1 | refine below_set ?_ GE176.out | refine below_set ?_ GE177.out | refine below_set ?_ GE185.out) | exact HB.out)⟩
    ·rw [if_neg c14] at H
     exact absurd H (by simp)
   ·rw [if_neg c13] at H
    exact absurd H (by simp)

end Go.Proofs.YtpmieapgbdbabaaDoor.QAll
end

section
/- Walks, written by a program of this session (wip/pp): a Go function comes to what the Lean function beside it tells. -/
namespace Go.Proofs.YtpmieapgbdbabaaDoor.QAll
open Go.RowKit Go.Proofs.YtpmieapgbdbabaaDoorW.PrintWords Go.Proofs.YtpmieapgbdbabaaDoorW.PrintLast Go.Proofs.YtpmieapgbdbabaaDoorW.PrintMore
attribute [local go_sem] max2_int min2_int max_two min_two max_three min_three max_four min_four
set_option linter.unusedVariables false
set_option linter.unusedSimpArgs false

def path_Response.f (a0_0 : ByteArray) (a0_1 : Int) (a0_2 : ByteArray) (a0_3 : Int) (a0_4 : Bool) (a0_5 : Bool) (l0_6 : List (S93)) : Option (Bool) := if a0_4 = true then (some false) else (some a0_5)
set_option maxHeartbeats 8000000 in
set_option maxRecDepth 100000 in
theorem path_Response.calls (a0_0 : ByteArray) (a0_1 : Int) (a0_2 : ByteArray) (a0_3 : Int) (a0_4 : Bool) (a0_5 : Bool) (A0_6 : Option Addr) (c0_6 : Nat) (l0_6 : List (S93)) (r : Bool) (w : World) (hr0_6 : Kd.C k93 w A0_6 l0_6.length l0_6) (hc0_6 : l0_6.length ≤ c0_6) (h : path_Response.f a0_0 a0_1 a0_2 a0_3 a0_4 a0_5 l0_6 = some r) :
  Calls Tryd.prog 26 #[.agg #[.string a0_0, .int .i64 a0_1, .string a0_2, .int .i64 a0_3, .bool a0_4, .bool a0_5, .slice A0_6 l0_6.length c0_6]] w fun e w' => e = .returned (.bool r) ∧ Below w.heap.size w w' := by
 have hu26 := Tryd.underlying26
 have HR0_6 := Aside0.mk hr0_6
 have HC0_6 := Aside0.mk hc0_6
 clear hr0_6 hc0_6
 have HB := Aside0.mk (Below.refl w.heap.size w)
 have H : (if a0_4 = true then (some false) else (some a0_5)) = some r := h
 clear h
 by_cases c2 : a0_4 = true
 ·subst c2
  have H1 : (some false) = some r := by rw [if_pos rfl] at H; exact H
  clear H
  have H := H1
  clear H1
  obtain rfl := Option.some.inj H
  go_enter Tryd.func26, Tryd.ntmps26
  go_wp2_with (first | ((with_reducible refine gate_dst (N := 1) rfl ?_); refine box_event ?hg (N := 1) ?hd (cs := #[.string a0_0, .int .i64 a0_1, .string a0_2, .int .i64 a0_3, .bool true, .bool a0_5, .slice A0_6 l0_6.length c0_6]) (t := 26) ?hr ?_; (case hd => rfl); (case hg => rfl); (case hr => first | (go_simp; done) | (go_simp; rfl)); intro gb190 hg w3 hbox hb; have n0_ := Aside0.mk (below_step (by repeat (first | (with_reducible first | exact HB.out | apply below_alloc | apply pw_below_drewN | apply below_drew1) | exact HB.out)) hb); have n1_ := Aside0.mk (hbox); have n2_ := Aside0.mk ((by rw [hg]; exact (below_size (by repeat (first | (with_reducible first | exact HB.out | apply below_alloc | apply pw_below_drewN | apply below_drew1) | exact HB.out))) : w.heap.size ≤ gb190)); have n3_ := Aside0.mk ((by rw [hg]; exact (below_size (by repeat (first | (with_reducible first | exact HB.out | apply below_alloc | apply pw_below_drewN | apply below_drew1) | exact HB.out))) : w.heap.size ≤ gb190)); clear HB; have HB := n0_; have BK190 := n1_; have GW190 := n2_; have GE190 := n3_; clear n0_ n1_ n2_ n3_; clear hb hbox hg; have hcz4_0 : w3.cell? ⟨gb190, 0, none⟩ = some (.string a0_0) := (blk_cell BK190.out 0).trans rfl; have hcz4_1 : w3.cell? ⟨gb190, 1, none⟩ = some (.int .i64 a0_1) := (blk_cell BK190.out 1).trans rfl; have hcz4_2 : w3.cell? ⟨gb190, 2, none⟩ = some (.string a0_2) := (blk_cell BK190.out 2).trans rfl; have hcz4_3 : w3.cell? ⟨gb190, 3, none⟩ = some (.int .i64 a0_3) := (blk_cell BK190.out 3).trans rfl; have hcz4_4 : w3.cell? ⟨gb190, 4, none⟩ = some (.bool true) := (blk_cell BK190.out 4).trans rfl; have hcz4_5 : w3.cell? ⟨gb190, 5, none⟩ = some (.bool a0_5) := (blk_cell BK190.out 5).trans rfl; have hcz4_6 : w3.cell? ⟨gb190, 6, none⟩ = some (.slice A0_6 l0_6.length c0_6) := (blk_cell BK190.out 6).trans rfl; have hfz4_0 := blk_frozen BK190.out 0; have hfz4_1 := blk_frozen BK190.out 1; have hfz4_2 := blk_frozen BK190.out 2; have hfz4_3 := blk_frozen BK190.out 3; have hfz4_4 := blk_frozen BK190.out 4; have hfz4_5 := blk_frozen BK190.out 5; have hfz4_6 := blk_frozen BK190.out 6))
  go_ret
  exact ⟨by first | rfl | (simp [errW_none, errW_some] <;> rfl) | (simp [*, errW_none, errW_some] <;> rfl), by repeat (first | (with_reducible first | exact HB.out | apply below_alloc | apply pw_below_drewN | apply below_drew1 | refine below_set ?_ GE190.out) | exact HB.out)⟩
 ·replace c2 := Bool.eq_false_iff.mpr c2
  subst c2
  have H1 : (some a0_5) = some r := by rw [if_neg (show ¬ (false = true) by decide)] at H; exact H
  clear H
  have H := H1
  clear H1
  obtain rfl := Option.some.inj H
  go_enter Tryd.func26, Tryd.ntmps26
  go_wp2_with (first | ((with_reducible refine gate_dst (N := 1) rfl ?_); refine box_event ?hg (N := 1) ?hd (cs := #[.string a0_0, .int .i64 a0_1, .string a0_2, .int .i64 a0_3, .bool false, .bool a0_5, .slice A0_6 l0_6.length c0_6]) (t := 26) ?hr ?_; (case hd => rfl); (case hg => rfl); (case hr => first | (go_simp; done) | (go_simp; rfl)); intro gb190 hg w5 hbox hb; have n0_ := Aside0.mk (below_step (by repeat (first | (with_reducible first | exact HB.out | apply below_alloc | apply pw_below_drewN | apply below_drew1) | exact HB.out)) hb); have n1_ := Aside0.mk (hbox); have n2_ := Aside0.mk ((by rw [hg]; exact (below_size (by repeat (first | (with_reducible first | exact HB.out | apply below_alloc | apply pw_below_drewN | apply below_drew1) | exact HB.out))) : w.heap.size ≤ gb190)); have n3_ := Aside0.mk ((by rw [hg]; exact (below_size (by repeat (first | (with_reducible first | exact HB.out | apply below_alloc | apply pw_below_drewN | apply below_drew1) | exact HB.out))) : w.heap.size ≤ gb190)); clear HB; have HB := n0_; have BK190 := n1_; have GW190 := n2_; have GE190 := n3_; clear n0_ n1_ n2_ n3_; clear hb hbox hg; have hcz6_0 : w5.cell? ⟨gb190, 0, none⟩ = some (.string a0_0) := (blk_cell BK190.out 0).trans rfl; have hcz6_1 : w5.cell? ⟨gb190, 1, none⟩ = some (.int .i64 a0_1) := (blk_cell BK190.out 1).trans rfl; have hcz6_2 : w5.cell? ⟨gb190, 2, none⟩ = some (.string a0_2) := (blk_cell BK190.out 2).trans rfl; have hcz6_3 : w5.cell? ⟨gb190, 3, none⟩ = some (.int .i64 a0_3) := (blk_cell BK190.out 3).trans rfl; have hcz6_4 : w5.cell? ⟨gb190, 4, none⟩ = some (.bool false) := (blk_cell BK190.out 4).trans rfl; have hcz6_5 : w5.cell? ⟨gb190, 5, none⟩ = some (.bool a0_5) := (blk_cell BK190.out 5).trans rfl; have hcz6_6 : w5.cell? ⟨gb190, 6, none⟩ = some (.slice A0_6 l0_6.length c0_6) := (blk_cell BK190.out 6).trans rfl; have hfz6_0 := blk_frozen BK190.out 0; have hfz6_1 := blk_frozen BK190.out 1; have hfz6_2 := blk_frozen BK190.out 2; have hfz6_3 := blk_frozen BK190.out 3; have hfz6_4 := blk_frozen BK190.out 4; have hfz6_5 := blk_frozen BK190.out 5; have hfz6_6 := blk_frozen BK190.out 6))
  go_ret
  exact ⟨by first | rfl | (simp [errW_none, errW_some] <;> rfl) | (simp [*, errW_none, errW_some] <;> rfl), by repeat (first | (with_reducible first | exact HB.out | apply below_alloc | apply pw_below_drewN | apply below_drew1 | refine below_set ?_ GE190.out) | exact HB.out)⟩

end Go.Proofs.YtpmieapgbdbabaaDoor.QAll
end

section
/- Walks, written by a program of this session (wip/pp): a Go function comes to what the Lean function beside it tells. -/
namespace Go.Proofs.YtpmieapgbdbabaaDoor.QAll
open Go.RowKit Go.Proofs.YtpmieapgbdbabaaDoorW.PrintWords Go.Proofs.YtpmieapgbdbabaaDoorW.PrintLast Go.Proofs.YtpmieapgbdbabaaDoorW.PrintMore
attribute [local go_sem] max2_int min2_int max_two min_two max_three min_three max_four min_four
set_option linter.unusedVariables false
set_option linter.unusedSimpArgs false

def call_letter.f (a0 : Int) : Option (Bool) := if a0 ≥ 65 then (if a0 ≤ 90 then (some true) else (if a0 ≥ 48 then (some (decide (a0 ≤ 57))) else (some false))) else (if a0 ≥ 48 then (some (decide (a0 ≤ 57))) else (some false))
set_option maxHeartbeats 8000000 in
set_option maxRecDepth 100000 in
theorem call_letter.calls (a0 : Int) (r : Bool) (w : World) (h : call_letter.f a0 = some r) :
  Calls Tryd.prog 68 #[.int .u8 a0] w fun e w' => e = .returned (.bool r) ∧ Drawn0 w w' := by
 have H : (if a0 ≥ 65 then (if a0 ≤ 90 then (some true) else (if a0 ≥ 48 then (some (decide (a0 ≤ 57))) else (some false))) else (if a0 ≥ 48 then (some (decide (a0 ≤ 57))) else (some false))) = some r := h
 clear h
 by_cases c2 : a0 ≥ 65
 ·rw [if_pos c2] at H
  have c2b0 : decide (65 ≤ a0) = true := decide_eq_true c2
  clear c2
  by_cases c3 : a0 ≤ 90
  ·rw [if_pos c3] at H
   have c3b0 : decide (a0 ≤ 90) = true := decide_eq_true c3
   clear c3
   obtain rfl := Option.some.inj H
   go_enter Tryd.func68, Tryd.ntmps68
   go_wp2
   go_ret
   exact ⟨by first | rfl | (simp; done) | (simp [*]; done) | (simp; exact (fun l : List UInt8 => (by cases l <;> rfl : l.isEmpty = !(l != []))) _), by repeat (first | exact Drawn0.refl _ | apply Drawn0.step)⟩
  ·rw [if_neg c3] at H
   have c3b0 : decide (a0 ≤ 90) = false := decide_eq_false c3
   clear c3
   by_cases c4 : a0 ≥ 48
   ·rw [if_pos c4] at H
    have c4b0 : decide (48 ≤ a0) = true := decide_eq_true c4
    clear c4
    obtain rfl := Option.some.inj H
    go_enter Tryd.func68, Tryd.ntmps68
    go_wp2
    go_ret
    exact ⟨by first | rfl | (simp; done) | (simp [*]; done) | (simp; exact (fun l : List UInt8 => (by cases l <;> rfl : l.isEmpty = !(l != []))) _), by repeat (first | exact Drawn0.refl _ | apply Drawn0.step)⟩
   ·rw [if_neg c4] at H
    have c4b0 : decide (48 ≤ a0) = false := decide_eq_false c4
    clear c4
    obtain rfl := Option.some.inj H
    go_enter Tryd.func68, Tryd.ntmps68
    go_wp2
    go_ret
    exact ⟨by first | rfl | (simp; done) | (simp [*]; done) | (simp; exact (fun l : List UInt8 => (by cases l <;> rfl : l.isEmpty = !(l != []))) _), by repeat (first | exact Drawn0.refl _ | apply Drawn0.step)⟩
 ·rw [if_neg c2] at H
  have c2b0 : decide (65 ≤ a0) = false := decide_eq_false c2
  clear c2
  by_cases c5 : a0 ≥ 48
  ·rw [if_pos c5] at H
   have c5b0 : decide (48 ≤ a0) = true := decide_eq_true c5
   clear c5
   obtain rfl := Option.some.inj H
   go_enter Tryd.func68, Tryd.ntmps68
   go_wp2
   go_ret
   exact ⟨by first | rfl | (simp; done) | (simp [*]; done) | (simp; exact (fun l : List UInt8 => (by cases l <;> rfl : l.isEmpty = !(l != []))) _), by repeat (first | exact Drawn0.refl _ | apply Drawn0.step)⟩
  ·rw [if_neg c5] at H
   have c5b0 : decide (48 ≤ a0) = false := decide_eq_false c5
   clear c5
   obtain rfl := Option.some.inj H
   go_enter Tryd.func68, Tryd.ntmps68
   go_wp2
   go_ret
   exact ⟨by first | rfl | (simp; done) | (simp [*]; done) | (simp; exact (fun l : List UInt8 => (by cases l <;> rfl : l.isEmpty = !(l != []))) _), by repeat (first | exact Drawn0.refl _ | apply Drawn0.step)⟩

end Go.Proofs.YtpmieapgbdbabaaDoor.QAll
end

section
/- call.Right, walked by hand: it tells whether all bytes of the base are letters or digits, and the lengths and the number are in their ranges, for every call. -/
set_option linter.unusedVariables false
set_option linter.unusedSimpArgs false
namespace Go.Proofs.YtpmieapgbdbabaaDoor.QAll
open Go.RowKit Go.Proofs.YtpmieapgbdbabaaDoorW.PrintWords Go.Proofs.YtpmieapgbdbabaaDoorW.PrintLast Go.Proofs.YtpmieapgbdbabaaDoorW.PrintMore

/-- May the byte c stand in a call? -/
def letB (c : Int) : Bool := decide (65 ≤ c ∧ c ≤ 90 ∨ 48 ≤ c ∧ c ≤ 57)
theorem letter_f (c : Int) : call_letter.f c = some (letB c) := by
  unfold call_letter.f letB
  repeat' split
  all_goals (congr 1; first | exact decide_eq_decide.2 (by omega) | (symm; exact decide_eq_true (by omega)) | (symm; exact decide_eq_false (by omega)))
/-- All of the first k bytes are letters or digits. -/
def letsTo (s : ByteArray) (k : Nat) : Prop := ∀ j : Nat, j < k → letB (bt s j) = true
def letsB (s : ByteArray) : Bool := s.data.toList.all fun c => letB c.toNat
theorem bt_data (s : ByteArray) (j : Nat) (h : j < s.size) : bt s j = ((s.data.toList[j]'(by simpa using h)).toNat : Int) := by
  unfold bt
  rw [dif_pos (by simpa using h)]
  rfl
theorem letsB_true {s : ByteArray} (h : letsTo s s.size) : letsB s = true := by
  unfold letsB
  rw [List.all_eq_true]
  intro c hc
  obtain ⟨j, hj, rfl⟩ := List.getElem_of_mem hc
  have hj' : j < s.size := by simpa using hj
  have := h j hj'
  rw [bt_data s j hj'] at this
  exact this
theorem letsB_false {s : ByteArray} (k : Nat) (hk : k < s.size) (h : letB (bt s k) = false) : letsB s = false := by
  unfold letsB
  rw [List.all_eq_false]
  refine ⟨_, List.getElem_mem (by simpa using hk : k < s.data.toList.length), ?_⟩
  rw [bt_data s k hk] at h
  rw [h]
  decide
def rightB (s : ByteArray) (n : Int) : Bool := letsB s && (decide (1 ≤ s.size) && (decide (s.size ≤ 6) && (decide (0 ≤ n) && decide (n ≤ 15))))
def call_Right.f (a0_0 : ByteArray) (a0_1 : Int) : Option Bool := if a0_0.size ≤ 9223372036854775807 then some (rightB a0_0 a0_1) else none

set_option maxHeartbeats 1000000 in
set_option maxRecDepth 100000 in
theorem call_Right.calls (a0_0 : ByteArray) (a0_1 : Int) (r : Bool) (w : World) (h : call_Right.f a0_0 a0_1 = some r) :
    Calls Tryd.prog 40 #[.agg #[.string a0_0, .int .i64 a0_1]] w fun e w' => e = .returned (.bool r) ∧ Below w.heap.size w w' := by
  unfold call_Right.f at h
  split at h
  case isFalse => exact absurd h (by simp)
  rename_i hs
  have HR := Aside0.mk (Option.some.inj h)
  clear h
  have hu23 := Tryd.underlying23
  have kb := fun W => print_bytes (P := Tryd.prog) 9 104 5 Tryd.underlying9 Tryd.underlying104 Tryd.underlying5 a0_0 W
  go_enter Tryd.func40, Tryd.ntmps40
  go_wp2
  go_loopw [9] (fun i wr => ∃ k : Nat, k ≤ a0_0.size ∧ i = .int .i64 k ∧ Aside0 (letsTo a0_0 k) ∧ Aside0 (Below w.heap.size w wr) ∧ (wr.cell? ⟨w.heap.size, 0, none⟩ = some (.string a0_0)) ∧ (wr.cell? ⟨w.heap.size, 1, none⟩ = some (.int .i64 a0_1)) ∧
      Aside0 (∀ j : Nat, j < a0_0.size → wr.cell? ⟨w.heap.size + 1, j, none⟩ = some (.int .u8 (bt a0_0 j)))) (fun i _ => a0_0.size - (intOf i).toNat)
  case atStart =>
    refine ⟨0, Nat.zero_le _, rfl, ⟨fun j hj => absurd hj (by omega)⟩, ⟨?_⟩, ?_, ?_, ⟨?_⟩⟩
    · exact bytes_below ((Below.refl _ _).alloc (Nat.le_refl _) _) (by simp) _ _
    · rw [Lib.bytesWorld_old _ _ _ _ (by simp)]; simp
    · rw [Lib.bytesWorld_old _ _ _ _ (by simp)]; simp
    · intro j hj
      have z := Lib.bytesWorld_cell (w.alloc (Obj.cells #[Value.string a0_0, Value.int IntKind.i64 a0_1] 23)) 5 a0_0 j hj
      have e : (w.alloc (Obj.cells #[Value.string a0_0, Value.int IntKind.i64 a0_1] 23)).heap.size = w.heap.size + 1 := by simp
      rw [e] at z
      rw [z, bt_data a0_0 j hj, List.getD_eq_getElem?_getD, List.getElem?_eq_getElem (by simpa using hj)]
      rfl
  case round =>
    obtain ⟨k, hk, rfl, HL, HB, hc0, hc1, HC⟩ := hrel
    by_cases hlt : k < a0_0.size
    · have hcell := HC.out k hlt
      have hb := bt_range a0_0 k
      have hcb := Aside0.mk hb
      cases hl : letB (bt a0_0 k) with
      | true =>
        have HL1 := Aside0.mk hl
        clear hl hb
        go_wp2_with (go_at_call 68; (with_reducible refine (call_letter.calls (bt a0_0 k) true _ (by rw [letter_f, HL1.out])).mono ?_); rintro e w' ⟨rfl, ⟨nd, rfl⟩⟩)
        go_roundw
        case rel =>
          refine ⟨k + 1, by omega, by go_num, ⟨fun j hj => ?_⟩, ⟨pw_below_drewN HB.out _⟩, hc0, hc1, ⟨HC.out⟩⟩
          by_cases e : j = k
          · subst e; exact HL1.out
          · exact HL.out j (by omega)
        case measure => simp [intOf]; omega
      | false =>
        have HL1 := Aside0.mk hl
        clear hl hb
        go_wp2_with (go_at_call 68; (with_reducible refine (call_letter.calls (bt a0_0 k) false _ (by rw [letter_f, HL1.out])).mono ?_); rintro e w' ⟨rfl, ⟨nd, rfl⟩⟩)
        go_ret
        refine ⟨?_, pw_below_drewN HB.out _⟩
        have e : rightB a0_0 a0_1 = false := by unfold rightB; rw [letsB_false k hlt HL1.out, Bool.false_and]
        rw [← HR.out, e]; rfl
    · obtain rfl : k = a0_0.size := by omega
      have HX := Aside0.mk (show rightB a0_0 a0_1 = (decide (1 ≤ a0_0.size) && (decide (a0_0.size ≤ 6) && (decide (0 ≤ a0_1) && decide (a0_1 ≤ 15)))) by unfold rightB; rw [letsB_true HL.out, Bool.true_and])
      clear HL hk hlt
      by_cases h1 : 1 ≤ a0_0.size
      · by_cases h2 : a0_0.size ≤ 6
        · by_cases h3 : 0 ≤ a0_1
          · by_cases h4 : a0_1 ≤ 15
            · have HE := Aside0.mk (show rightB a0_0 a0_1 = true by rw [HX.out]; simp [h1, h2, h3, h4])
              go_wp2
              go_ret
              exact ⟨by rw [← HR.out, HE.out]; rfl, HB.out⟩
            · have HE := Aside0.mk (show rightB a0_0 a0_1 = false by rw [HX.out]; simp [h1, h2, h3, h4])
              go_wp2
              go_ret
              exact ⟨by rw [← HR.out, HE.out]; rfl, HB.out⟩
          · have HE := Aside0.mk (show rightB a0_0 a0_1 = false by rw [HX.out]; simp [h1, h2, h3])
            go_wp2
            go_ret
            exact ⟨by rw [← HR.out, HE.out]; rfl, HB.out⟩
        · have HE := Aside0.mk (show rightB a0_0 a0_1 = false by rw [HX.out]; simp [h1, h2])
          go_wp2
          go_ret
          exact ⟨by rw [← HR.out, HE.out]; rfl, HB.out⟩
      · have HE := Aside0.mk (show rightB a0_0 a0_1 = false by rw [HX.out]; simp [h1])
        go_wp2
        go_ret
        exact ⟨by rw [← HR.out, HE.out]; rfl, HB.out⟩
end Go.Proofs.YtpmieapgbdbabaaDoor.QAll
end

section
/- Walks, written by a program of this session (wip/pp): a Go function comes to what the Lean function beside it tells. -/
namespace Go.Proofs.YtpmieapgbdbabaaDoor.QAll
open Go.RowKit Go.Proofs.YtpmieapgbdbabaaDoorW.PrintWords Go.Proofs.YtpmieapgbdbabaaDoorW.PrintLast Go.Proofs.YtpmieapgbdbabaaDoorW.PrintMore
attribute [local go_sem] max2_int min2_int max_two min_two max_three min_three max_four min_four
set_option linter.unusedVariables false
set_option linter.unusedSimpArgs false

def path_ordered.l0 : Nat → List (S93) → List (S93) → Int → Int → Option (Bool)
 | 0, _, _, _, _ => none
 | k + 1, x0, x5, x6, x7 => if x7 < x6 then (if 0 ≤ x7 then (if x7 < (x5.length : Int) then (if (rd_T93 x5 x7).f1 = true then (if x7 > 0 then (if 0 ≤ (wrap64 (x7 - 1)) then (if (wrap64 (x7 - 1)) < (x0.length : Int) then (if ((rd_T93 x0 (wrap64 (x7 - 1))).f1 = true) then (path_ordered.l0 k x0 x5 x6 (wrap64 (x7 + 1))) else (some false)) else (none)) else (none)) else (path_ordered.l0 k x0 x5 x6 (wrap64 (x7 + 1)))) else (path_ordered.l0 k x0 x5 x6 (wrap64 (x7 + 1)))) else (none)) else (none)) else (some (decide ((x0.length : Int) ≤ 8)))
def path_ordered.f (k : Nat) (l0 : List (S93)) : Option (Bool) := path_ordered.l0 k l0 l0 (l0.length : Int) 0
set_option maxHeartbeats 8000000 in
set_option maxRecDepth 100000 in
theorem path_ordered.calls (k : Nat) (A0 : Option Addr) (c0 : Nat) (l0 : List (S93)) (r : Bool) (w : World) (hr0 : Kd.C k93 w A0 l0.length l0) (hc0 : l0.length ≤ c0) (h : path_ordered.f k l0 = some r) :
  Calls Tryd.prog 63 #[.slice A0 l0.length c0] w fun e w' => e = .returned (.bool r) ∧ Below w.heap.size w w' := by
 have hu93 := Tryd.underlying93
 have HR0 := Aside0.mk hr0
 have HC0 := Aside0.mk hc0
 clear hr0 hc0
 have HB := Aside0.mk (Below.refl w.heap.size w)
 have H : (path_ordered.l0 k l0 l0 (l0.length : Int) 0) = some r := h
 clear h
 have H' := Aside0.mk H
 clear H
 go_enter Tryd.func63, Tryd.ntmps63
 go_wp2
 go_loopg [7] k (fun kq v7 w' => ∃ (x7_1 : Int), v7 = .int .i64 x7_1 ∧ Aside0 (path_ordered.l0 kq l0 l0 (l0.length : Int) x7_1 = some r) ∧ Aside0 (kq ≤ k) ∧ Aside0 (Below w.heap.size w w'))
 case atStart => exact ⟨(0), (by first | rfl | (simp; done) | (simp [*]; done) | (simp; exact (fun l : List UInt8 => (by cases l <;> rfl : l.isEmpty = !(l != []))) _)), H', ⟨Nat.le_refl _⟩, ⟨by repeat (first | (with_reducible first | exact HB.out | apply below_alloc | apply pw_below_drewN | apply below_drew1) | exact HB.out)⟩⟩
 case round =>
  clear H'
  obtain ⟨x7_1, rfl, HA, HK1, HB⟩ := hrel
  cases gk with
  | zero => exact absurd HA.out (by simp [path_ordered.l0])
  | succ k1 =>
   have H := HA.out
   clear HA
   simp only [path_ordered.l0] at H
   by_cases c2 : x7_1 < (l0.length : Int)
   ·rw [if_pos c2] at H
    have c2b0 : decide (x7_1 < (l0.length : Int)) = true := decide_eq_true c2
    clear c2
    by_cases c3 : 0 ≤ x7_1
    ·rw [if_pos c3] at H
     have c3b0 : decide (0 ≤ x7_1) = true := decide_eq_true c3
     clear c3
     by_cases c4 : x7_1 < (l0.length : Int)
     ·rw [if_pos c4] at H
      have c4b0 : decide (x7_1 < (l0.length : Int)) = true := decide_eq_true c4
      clear c4
      obtain ⟨bq5, hbq5⟩ : ∃ b_ : Bool, b_ = ((rd_T93 l0 x7_1).f1) := ⟨_, rfl⟩
      replace H : (if bq5 = true then (if x7_1 > 0 then (if 0 ≤ (wrap64 (x7_1 - 1)) then (if (wrap64 (x7_1 - 1)) < (l0.length : Int) then (if ((rd_T93 l0 (wrap64 (x7_1 - 1))).f1 = true) then (path_ordered.l0 k1 l0 l0 (l0.length : Int) (wrap64 (x7_1 + 1))) else (some false)) else (none)) else (none)) else (path_ordered.l0 k1 l0 l0 (l0.length : Int) (wrap64 (x7_1 + 1)))) else (path_ordered.l0 k1 l0 l0 (l0.length : Int) (wrap64 (x7_1 + 1)))) = some r := by rw [← hbq5] at H; exact H
      have Nbq5 := Aside0.mk hbq5
      clear hbq5
      by_cases c6 : bq5 = true
      ·subst c6
       have H1 : (if x7_1 > 0 then (if 0 ≤ (wrap64 (x7_1 - 1)) then (if (wrap64 (x7_1 - 1)) < (l0.length : Int) then (if ((rd_T93 l0 (wrap64 (x7_1 - 1))).f1 = true) then (path_ordered.l0 k1 l0 l0 (l0.length : Int) (wrap64 (x7_1 + 1))) else (some false)) else (none)) else (none)) else (path_ordered.l0 k1 l0 l0 (l0.length : Int) (wrap64 (x7_1 + 1)))) = some r := by rw [if_pos rfl] at H; exact H
       clear H
       have H := H1
       clear H1
       by_cases c7 : x7_1 > 0
       ·rw [if_pos c7] at H
        have c7b0 : decide (0 < x7_1) = true := decide_eq_true c7
        clear c7
        obtain ⟨ji8, hji8⟩ : ∃ j_ : Int, (wrap64 (x7_1 - 1)) = j_ := ⟨_, rfl⟩
        replace H : (if 0 ≤ (ji8) then (if (ji8) < (l0.length : Int) then (if ((rd_T93 l0 (ji8)).f1 = true) then (path_ordered.l0 k1 l0 l0 (l0.length : Int) (wrap64 (x7_1 + 1))) else (some false)) else (none)) else (none)) = some r := by first | (rw [hji8] at H; exact H) | (simp only [hji8] at H ⊢; exact H)
        have hji8w : (IntKind.i64.wrap (x7_1 - 1)) = ji8 := (i64_w _).trans hji8
        by_cases c9 : 0 ≤ (ji8)
        ·rw [if_pos c9] at H
         have c9b0 : decide (0 ≤ (ji8)) = true := decide_eq_true c9
         clear c9
         by_cases c10 : (ji8) < (l0.length : Int)
         ·rw [if_pos c10] at H
          have c10b0 : decide ((ji8) < (l0.length : Int)) = true := decide_eq_true c10
          clear c10
          obtain ⟨bq11, hbq11⟩ : ∃ b_ : Bool, b_ = ((rd_T93 l0 (ji8)).f1) := ⟨_, rfl⟩
          replace H : (if (bq11 = true) then (path_ordered.l0 k1 l0 l0 (l0.length : Int) (wrap64 (x7_1 + 1))) else (some false)) = some r := by rw [← hbq11] at H; exact H
          have Nbq11 := Aside0.mk hbq11
          clear hbq11
          by_cases c12 : (bq11 = true)
          ·subst c12
           have H1 : (path_ordered.l0 k1 l0 l0 (l0.length : Int) (wrap64 (x7_1 + 1))) = some r := by rw [if_pos rfl] at H; exact H
           clear H
           have H := H1
           clear H1
           have H' := Aside0.mk H
           clear H
           have p113 : 0 ≤ (x7_1 : Int) := of_decide_eq_true (by first | (with_reducible assumption) | assumption)
           have q113 : x7_1 < (l0.length : Int) := of_decide_eq_true (by first | (with_reducible assumption) | assumption)
           obtain ⟨ad113, e113, hx113_0, hx113_1, hx113_2⟩ := at_T93 HR0.out x7_1 p113 q113
           (try rw [← Nbq5.out] at hx113_2)
           (try rw [← Nbq11.out] at hx113_2)
           cases e113
           replace hx113_0 := (HB.out.cell (World.block_lt_of_cell? w _ hx113_0)).trans hx113_0
           replace hx113_1 := (HB.out.cell (World.block_lt_of_cell? w _ hx113_1)).trans hx113_1
           replace hx113_2 := (HB.out.cell (World.block_lt_of_cell? w _ hx113_2)).trans hx113_2
           replace p113 := eq_true p113
           replace q113 := eq_true q113
           go_wp2_with (first | ((with_reducible refine gate_dst (N := 4) rfl ?_); refine box_event ?hg (N := 4) ?hd (cs := #[.string (⟨#[]⟩ : ByteArray), .int .i64 0, .bool false]) (t := 93) ?hr ?_; (case hd => rfl); (case hg => rfl); (case hr => first | (go_simp; done) | (go_simp; rfl)); intro gb114 hg w13 hbox hb; have n0_ := Aside0.mk (below_step (by repeat (first | (with_reducible first | exact HB.out | apply below_alloc | apply pw_below_drewN | apply below_drew1) | exact HB.out)) hb); have n1_ := Aside0.mk (hbox); have n2_ := Aside0.mk ((by rw [hg]; exact (below_size (by repeat (first | (with_reducible first | exact HB.out | apply below_alloc | apply pw_below_drewN | apply below_drew1) | exact HB.out))) : w.heap.size ≤ gb114)); have n3_ := Aside0.mk ((by rw [hg]; exact (below_size (by repeat (first | (with_reducible first | exact HB.out | apply below_alloc | apply pw_below_drewN | apply below_drew1) | exact HB.out))) : w.heap.size ≤ gb114)); clear HB; have HB := n0_; have BK114 := n1_; have GW114 := n2_; have GE114 := n3_; clear n0_ n1_ n2_ n3_; clear hb hbox hg; have hcz14_0 : w13.cell? ⟨gb114, 0, none⟩ = some (.string (⟨#[]⟩ : ByteArray)) := (blk_cell BK114.out 0).trans rfl; have hcz14_1 : w13.cell? ⟨gb114, 1, none⟩ = some (.int .i64 0) := (blk_cell BK114.out 1).trans rfl; have hcz14_2 : w13.cell? ⟨gb114, 2, none⟩ = some (.bool false) := (blk_cell BK114.out 2).trans rfl; have hfz14_0 := blk_frozen BK114.out 0; have hfz14_1 := blk_frozen BK114.out 1; have hfz14_2 := blk_frozen BK114.out 2; have p115 : 0 ≤ ((ji8) : Int) := of_decide_eq_true (by first | (with_reducible assumption) | assumption); have q115 : (ji8) < (l0.length : Int) := of_decide_eq_true (by first | (with_reducible assumption) | assumption); obtain ⟨ad115, e115, hx115_0, hx115_1, hx115_2⟩ := at_T93 HR0.out (ji8) p115 q115; (try rw [← Nbq5.out] at hx115_2); (try rw [← Nbq11.out] at hx115_2); obtain rfl : ad113 = ad115 := (by injection e115); have hn115_0 : ad113.block ≠ gb114 := Nat.ne_of_lt (Nat.lt_of_lt_of_le (by have := World.block_lt_of_cell? _ _ hx115_0; first | rwa [add_block] at this | exact this) GW114.out); have hn115_1 : ad113.block ≠ gb114 := Nat.ne_of_lt (Nat.lt_of_lt_of_le (by have := World.block_lt_of_cell? _ _ hx115_0; first | rwa [add_block] at this | exact this) GW114.out); have hn115_2 : ad113.block ≠ gb114 := Nat.ne_of_lt (Nat.lt_of_lt_of_le (by have := World.block_lt_of_cell? _ _ hx115_0; first | rwa [add_block] at this | exact this) GW114.out); replace hx115_0 := (HB.out.cell (World.block_lt_of_cell? w _ hx115_0)).trans hx115_0; replace hx115_1 := (HB.out.cell (World.block_lt_of_cell? w _ hx115_1)).trans hx115_1; replace hx115_2 := (HB.out.cell (World.block_lt_of_cell? w _ hx115_2)).trans hx115_2; replace hx115_0 := (cell_far (p := ⟨gb114, 0, none⟩) (by first | (rw [add_block]; exact hn115_0) | (show (Addr.add _ _).block ≠ _; rw [add_block]; exact hn115_0) | exact hn115_0) (.string ((rd_T93 l0 x7_1).f0.f0))).trans hx115_0; replace hx115_1 := (cell_far (p := ⟨gb114, 0, none⟩) (by first | (rw [add_block]; exact hn115_0) | (show (Addr.add _ _).block ≠ _; rw [add_block]; exact hn115_0) | exact hn115_0) (.string ((rd_T93 l0 x7_1).f0.f0))).trans hx115_1; replace hx115_2 := (cell_far (p := ⟨gb114, 0, none⟩) (by first | (rw [add_block]; exact hn115_0) | (show (Addr.add _ _).block ≠ _; rw [add_block]; exact hn115_0) | exact hn115_0) (.string ((rd_T93 l0 x7_1).f0.f0))).trans hx115_2; replace hx115_0 := (cell_far (p := ⟨gb114, 1, none⟩) (by first | (rw [add_block]; exact hn115_1) | (show (Addr.add _ _).block ≠ _; rw [add_block]; exact hn115_1) | exact hn115_1) (.int .i64 ((rd_T93 l0 x7_1).f0.f1))).trans hx115_0; replace hx115_1 := (cell_far (p := ⟨gb114, 1, none⟩) (by first | (rw [add_block]; exact hn115_1) | (show (Addr.add _ _).block ≠ _; rw [add_block]; exact hn115_1) | exact hn115_1) (.int .i64 ((rd_T93 l0 x7_1).f0.f1))).trans hx115_1; replace hx115_2 := (cell_far (p := ⟨gb114, 1, none⟩) (by first | (rw [add_block]; exact hn115_1) | (show (Addr.add _ _).block ≠ _; rw [add_block]; exact hn115_1) | exact hn115_1) (.int .i64 ((rd_T93 l0 x7_1).f0.f1))).trans hx115_2; replace hx115_0 := (cell_far (p := ⟨gb114, 2, none⟩) (by first | (rw [add_block]; exact hn115_2) | (show (Addr.add _ _).block ≠ _; rw [add_block]; exact hn115_2) | exact hn115_2) (.bool true)).trans hx115_0; replace hx115_1 := (cell_far (p := ⟨gb114, 2, none⟩) (by first | (rw [add_block]; exact hn115_2) | (show (Addr.add _ _).block ≠ _; rw [add_block]; exact hn115_2) | exact hn115_2) (.bool true)).trans hx115_1; replace hx115_2 := (cell_far (p := ⟨gb114, 2, none⟩) (by first | (rw [add_block]; exact hn115_2) | (show (Addr.add _ _).block ≠ _; rw [add_block]; exact hn115_2) | exact hn115_2) (.bool true)).trans hx115_2; clear hn115_0; clear hn115_1; clear hn115_2; replace p115 := eq_true p115; replace q115 := eq_true q115))
           go_roundg k1
           case measure => have := HK1.out; omega
           case rel => exact ⟨(wrap64 (x7_1 + 1)), (by first | rfl | (simp; done) | (simp [*]; done) | (simp; exact (fun l : List UInt8 => (by cases l <;> rfl : l.isEmpty = !(l != []))) _)), H', ⟨by have := HK1.out; omega⟩, ⟨by repeat (first | (with_reducible first | exact HB.out | apply below_alloc | apply pw_below_drewN | apply below_drew1 | refine below_set ?_ GE114.out) | exact HB.out)⟩⟩
          ·replace c12 := Bool.eq_false_iff.mpr c12
           subst c12
           have H1 : (some false) = some r := by rw [if_neg (show ¬ (false = true) by decide)] at H; exact H
           clear H
           have H := H1
           clear H1
           obtain rfl := Option.some.inj H
           have p113 : 0 ≤ (x7_1 : Int) := of_decide_eq_true (by first | (with_reducible assumption) | assumption)
           have q113 : x7_1 < (l0.length : Int) := of_decide_eq_true (by first | (with_reducible assumption) | assumption)
           obtain ⟨ad113, e113, hx113_0, hx113_1, hx113_2⟩ := at_T93 HR0.out x7_1 p113 q113
           (try rw [← Nbq5.out] at hx113_2)
           (try rw [← Nbq11.out] at hx113_2)
           cases e113
           replace hx113_0 := (HB.out.cell (World.block_lt_of_cell? w _ hx113_0)).trans hx113_0
           replace hx113_1 := (HB.out.cell (World.block_lt_of_cell? w _ hx113_1)).trans hx113_1
           replace hx113_2 := (HB.out.cell (World.block_lt_of_cell? w _ hx113_2)).trans hx113_2
           replace p113 := eq_true p113
           replace q113 := eq_true q113
           go_wp2_with (first | ((with_reducible refine gate_dst (N := 4) rfl ?_); refine box_event ?hg (N := 4) ?hd (cs := #[.string (⟨#[]⟩ : ByteArray), .int .i64 0, .bool false]) (t := 93) ?hr ?_; (case hd => rfl); (case hg => rfl); (case hr => first | (go_simp; done) | (go_simp; rfl)); intro gb114 hg w15 hbox hb; have n0_ := Aside0.mk (below_step (by repeat (first | (with_reducible first | exact HB.out | apply below_alloc | apply pw_below_drewN | apply below_drew1) | exact HB.out)) hb); have n1_ := Aside0.mk (hbox); have n2_ := Aside0.mk ((by rw [hg]; exact (below_size (by repeat (first | (with_reducible first | exact HB.out | apply below_alloc | apply pw_below_drewN | apply below_drew1) | exact HB.out))) : w.heap.size ≤ gb114)); have n3_ := Aside0.mk ((by rw [hg]; exact (below_size (by repeat (first | (with_reducible first | exact HB.out | apply below_alloc | apply pw_below_drewN | apply below_drew1) | exact HB.out))) : w.heap.size ≤ gb114)); clear HB; have HB := n0_; have BK114 := n1_; have GW114 := n2_; have GE114 := n3_; clear n0_ n1_ n2_ n3_; clear hb hbox hg; have hcz16_0 : w15.cell? ⟨gb114, 0, none⟩ = some (.string (⟨#[]⟩ : ByteArray)) := (blk_cell BK114.out 0).trans rfl; have hcz16_1 : w15.cell? ⟨gb114, 1, none⟩ = some (.int .i64 0) := (blk_cell BK114.out 1).trans rfl; have hcz16_2 : w15.cell? ⟨gb114, 2, none⟩ = some (.bool false) := (blk_cell BK114.out 2).trans rfl; have hfz16_0 := blk_frozen BK114.out 0; have hfz16_1 := blk_frozen BK114.out 1; have hfz16_2 := blk_frozen BK114.out 2; have p115 : 0 ≤ ((ji8) : Int) := of_decide_eq_true (by first | (with_reducible assumption) | assumption); have q115 : (ji8) < (l0.length : Int) := of_decide_eq_true (by first | (with_reducible assumption) | assumption); obtain ⟨ad115, e115, hx115_0, hx115_1, hx115_2⟩ := at_T93 HR0.out (ji8) p115 q115; (try rw [← Nbq5.out] at hx115_2); (try rw [← Nbq11.out] at hx115_2); obtain rfl : ad113 = ad115 := (by injection e115); have hn115_0 : ad113.block ≠ gb114 := Nat.ne_of_lt (Nat.lt_of_lt_of_le (by have := World.block_lt_of_cell? _ _ hx115_0; first | rwa [add_block] at this | exact this) GW114.out); have hn115_1 : ad113.block ≠ gb114 := Nat.ne_of_lt (Nat.lt_of_lt_of_le (by have := World.block_lt_of_cell? _ _ hx115_0; first | rwa [add_block] at this | exact this) GW114.out); have hn115_2 : ad113.block ≠ gb114 := Nat.ne_of_lt (Nat.lt_of_lt_of_le (by have := World.block_lt_of_cell? _ _ hx115_0; first | rwa [add_block] at this | exact this) GW114.out); replace hx115_0 := (HB.out.cell (World.block_lt_of_cell? w _ hx115_0)).trans hx115_0; replace hx115_1 := (HB.out.cell (World.block_lt_of_cell? w _ hx115_1)).trans hx115_1; replace hx115_2 := (HB.out.cell (World.block_lt_of_cell? w _ hx115_2)).trans hx115_2; replace hx115_0 := (cell_far (p := ⟨gb114, 0, none⟩) (by first | (rw [add_block]; exact hn115_0) | (show (Addr.add _ _).block ≠ _; rw [add_block]; exact hn115_0) | exact hn115_0) (.string ((rd_T93 l0 x7_1).f0.f0))).trans hx115_0; replace hx115_1 := (cell_far (p := ⟨gb114, 0, none⟩) (by first | (rw [add_block]; exact hn115_0) | (show (Addr.add _ _).block ≠ _; rw [add_block]; exact hn115_0) | exact hn115_0) (.string ((rd_T93 l0 x7_1).f0.f0))).trans hx115_1; replace hx115_2 := (cell_far (p := ⟨gb114, 0, none⟩) (by first | (rw [add_block]; exact hn115_0) | (show (Addr.add _ _).block ≠ _; rw [add_block]; exact hn115_0) | exact hn115_0) (.string ((rd_T93 l0 x7_1).f0.f0))).trans hx115_2; replace hx115_0 := (cell_far (p := ⟨gb114, 1, none⟩) (by first | (rw [add_block]; exact hn115_1) | (show (Addr.add _ _).block ≠ _; rw [add_block]; exact hn115_1) | exact hn115_1) (.int .i64 ((rd_T93 l0 x7_1).f0.f1))).trans hx115_0; replace hx115_1 := (cell_far (p := ⟨gb114, 1, none⟩) (by first | (rw [add_block]; exact hn115_1) | (show (Addr.add _ _).block ≠ _; rw [add_block]; exact hn115_1) | exact hn115_1) (.int .i64 ((rd_T93 l0 x7_1).f0.f1))).trans hx115_1; replace hx115_2 := (cell_far (p := ⟨gb114, 1, none⟩) (by first | (rw [add_block]; exact hn115_1) | (show (Addr.add _ _).block ≠ _; rw [add_block]; exact hn115_1) | exact hn115_1) (.int .i64 ((rd_T93 l0 x7_1).f0.f1))).trans hx115_2; replace hx115_0 := (cell_far (p := ⟨gb114, 2, none⟩) (by first | (rw [add_block]; exact hn115_2) | (show (Addr.add _ _).block ≠ _; rw [add_block]; exact hn115_2) | exact hn115_2) (.bool true)).trans hx115_0; replace hx115_1 := (cell_far (p := ⟨gb114, 2, none⟩) (by first | (rw [add_block]; exact hn115_2) | (show (Addr.add _ _).block ≠ _; rw [add_block]; exact hn115_2) | exact hn115_2) (.bool true)).trans hx115_1; replace hx115_2 := (cell_far (p := ⟨gb114, 2, none⟩) (by first | (rw [add_block]; exact hn115_2) | (show (Addr.add _ _).block ≠ _; rw [add_block]; exact hn115_2) | exact hn115_2) (.bool true)).trans hx115_2; clear hn115_0; clear hn115_1; clear hn115_2; replace p115 := eq_true p115; replace q115 := eq_true q115))
           go_ret
           exact ⟨by first | rfl | (simp [errW_none, errW_some] <;> rfl) | (simp only [← hji8]; first | rfl | (simp [errW_none, errW_some] <;> rfl)) | (simp [*, errW_none, errW_some] <;> rfl), by repeat (first | (with_reducible first | exact HB.out | apply below_alloc | apply pw_below_drewN | apply below_drew1 | refine below_set ?_ GE114.out) | exact HB.out)⟩
         ·rw [if_neg c10] at H
          exact absurd H (by simp)
        ·rw [if_neg c9] at H
         exact absurd H (by simp)
       ·rw [if_neg c7] at H
        have c7b0 : decide (0 < x7_1) = false := decide_eq_false c7
        clear c7
        have H' := Aside0.mk H
        clear H
        have p113 : 0 ≤ (x7_1 : Int) := of_decide_eq_true (by first | (with_reducible assumption) | assumption)
        have q113 : x7_1 < (l0.length : Int) := of_decide_eq_true (by first | (with_reducible assumption) | assumption)
        obtain ⟨ad113, e113, hx113_0, hx113_1, hx113_2⟩ := at_T93 HR0.out x7_1 p113 q113
        (try rw [← Nbq5.out] at hx113_2)
        cases e113
        replace hx113_0 := (HB.out.cell (World.block_lt_of_cell? w _ hx113_0)).trans hx113_0
        replace hx113_1 := (HB.out.cell (World.block_lt_of_cell? w _ hx113_1)).trans hx113_1
        replace hx113_2 := (HB.out.cell (World.block_lt_of_cell? w _ hx113_2)).trans hx113_2
        replace p113 := eq_true p113
        replace q113 := eq_true q113
        go_wp2_with (first | ((with_reducible refine gate_dst (N := 4) rfl ?_); refine box_event ?hg (N := 4) ?hd (cs := #[.string (⟨#[]⟩ : ByteArray), .int .i64 0, .bool false]) (t := 93) ?hr ?_; (case hd => rfl); (case hg => rfl); (case hr => first | (go_simp; done) | (go_simp; rfl)); intro gb114 hg w17 hbox hb; have n0_ := Aside0.mk (below_step (by repeat (first | (with_reducible first | exact HB.out | apply below_alloc | apply pw_below_drewN | apply below_drew1) | exact HB.out)) hb); have n1_ := Aside0.mk (hbox); have n2_ := Aside0.mk ((by rw [hg]; exact (below_size (by repeat (first | (with_reducible first | exact HB.out | apply below_alloc | apply pw_below_drewN | apply below_drew1) | exact HB.out))) : w.heap.size ≤ gb114)); have n3_ := Aside0.mk ((by rw [hg]; exact (below_size (by repeat (first | (with_reducible first | exact HB.out | apply below_alloc | apply pw_below_drewN | apply below_drew1) | exact HB.out))) : w.heap.size ≤ gb114)); clear HB; have HB := n0_; have BK114 := n1_; have GW114 := n2_; have GE114 := n3_; clear n0_ n1_ n2_ n3_; clear hb hbox hg; have hcz18_0 : w17.cell? ⟨gb114, 0, none⟩ = some (.string (⟨#[]⟩ : ByteArray)) := (blk_cell BK114.out 0).trans rfl; have hcz18_1 : w17.cell? ⟨gb114, 1, none⟩ = some (.int .i64 0) := (blk_cell BK114.out 1).trans rfl; have hcz18_2 : w17.cell? ⟨gb114, 2, none⟩ = some (.bool false) := (blk_cell BK114.out 2).trans rfl; have hfz18_0 := blk_frozen BK114.out 0; have hfz18_1 := blk_frozen BK114.out 1; have hfz18_2 := blk_frozen BK114.out 2))
        go_roundg k1
        case measure => have := HK1.out; omega
        case rel => exact ⟨(wrap64 (x7_1 + 1)), (by first | rfl | (simp; done) | (simp [*]; done) | (simp; exact (fun l : List UInt8 => (by cases l <;> rfl : l.isEmpty = !(l != []))) _)), H', ⟨by have := HK1.out; omega⟩, ⟨by repeat (first | (with_reducible first | exact HB.out | apply below_alloc | apply pw_below_drewN | apply below_drew1 | refine below_set ?_ GE114.out) | exact HB.out)⟩⟩
      ·replace c6 := Bool.eq_false_iff.mpr c6
       subst c6
       have H1 : (path_ordered.l0 k1 l0 l0 (l0.length : Int) (wrap64 (x7_1 + 1))) = some r := by rw [if_neg (show ¬ (false = true) by decide)] at H; exact H
       clear H
       have H := H1
       clear H1
       have H' := Aside0.mk H
       clear H
       have p113 : 0 ≤ (x7_1 : Int) := of_decide_eq_true (by first | (with_reducible assumption) | assumption)
       have q113 : x7_1 < (l0.length : Int) := of_decide_eq_true (by first | (with_reducible assumption) | assumption)
       obtain ⟨ad113, e113, hx113_0, hx113_1, hx113_2⟩ := at_T93 HR0.out x7_1 p113 q113
       (try rw [← Nbq5.out] at hx113_2)
       cases e113
       replace hx113_0 := (HB.out.cell (World.block_lt_of_cell? w _ hx113_0)).trans hx113_0
       replace hx113_1 := (HB.out.cell (World.block_lt_of_cell? w _ hx113_1)).trans hx113_1
       replace hx113_2 := (HB.out.cell (World.block_lt_of_cell? w _ hx113_2)).trans hx113_2
       replace p113 := eq_true p113
       replace q113 := eq_true q113
       go_wp2_with (first | ((with_reducible refine gate_dst (N := 4) rfl ?_); refine box_event ?hg (N := 4) ?hd (cs := #[.string (⟨#[]⟩ : ByteArray), .int .i64 0, .bool false]) (t := 93) ?hr ?_; (case hd => rfl); (case hg => rfl); (case hr => first | (go_simp; done) | (go_simp; rfl)); intro gb114 hg w19 hbox hb; have n0_ := Aside0.mk (below_step (by repeat (first | (with_reducible first | exact HB.out | apply below_alloc | apply pw_below_drewN | apply below_drew1) | exact HB.out)) hb); have n1_ := Aside0.mk (hbox); have n2_ := Aside0.mk ((by rw [hg]; exact (below_size (by repeat (first | (with_reducible first | exact HB.out | apply below_alloc | apply pw_below_drewN | apply below_drew1) | exact HB.out))) : w.heap.size ≤ gb114)); have n3_ := Aside0.mk ((by rw [hg]; exact (below_size (by repeat (first | (with_reducible first | exact HB.out | apply below_alloc | apply pw_below_drewN | apply below_drew1) | exact HB.out))) : w.heap.size ≤ gb114)); clear HB; have HB := n0_; have BK114 := n1_; have GW114 := n2_; have GE114 := n3_; clear n0_ n1_ n2_ n3_; clear hb hbox hg; have hcz20_0 : w19.cell? ⟨gb114, 0, none⟩ = some (.string (⟨#[]⟩ : ByteArray)) := (blk_cell BK114.out 0).trans rfl; have hcz20_1 : w19.cell? ⟨gb114, 1, none⟩ = some (.int .i64 0) := (blk_cell BK114.out 1).trans rfl; have hcz20_2 : w19.cell? ⟨gb114, 2, none⟩ = some (.bool false) := (blk_cell BK114.out 2).trans rfl; have hfz20_0 := blk_frozen BK114.out 0; have hfz20_1 := blk_frozen BK114.out 1; have hfz20_2 := blk_frozen BK114.out 2))
       go_roundg k1
       case measure => have := HK1.out; omega
       case rel => exact ⟨(wrap64 (x7_1 + 1)), (by first | rfl | (simp; done) | (simp [*]; done) | (simp; exact (fun l : List UInt8 => (by cases l <;> rfl : l.isEmpty = !(l != []))) _)), H', ⟨by have := HK1.out; omega⟩, ⟨by repeat (first | (with_reducible first | exact HB.out | apply below_alloc | apply pw_below_drewN | apply below_drew1 | refine below_set ?_ GE114.out) | exact HB.out)⟩⟩
     ·rw [if_neg c4] at H
      exact absurd H (by simp)
    ·rw [if_neg c3] at H
     exact absurd H (by simp)
   ·rw [if_neg c2] at H
    have c2b0 : decide (x7_1 < (l0.length : Int)) = false := decide_eq_false c2
    clear c2
    obtain rfl := Option.some.inj H
    go_wp2
    go_ret
    exact ⟨by first | rfl | (simp [errW_none, errW_some] <;> rfl) | (simp [*, errW_none, errW_some] <;> rfl), by repeat (first | (with_reducible first | exact HB.out | apply below_alloc | apply pw_below_drewN | apply below_drew1) | exact HB.out)⟩

end Go.Proofs.YtpmieapgbdbabaaDoor.QAll
end

section
/- path.Right, walked by hand: is a path right? -/
set_option linter.unusedVariables false
set_option linter.unusedSimpArgs false
namespace Go.Proofs.YtpmieapgbdbabaaDoor.QAll
open Go.RowKit Go.Proofs.YtpmieapgbdbabaaDoorW.PrintWords Go.Proofs.YtpmieapgbdbabaaDoorW.PrintLast Go.Proofs.YtpmieapgbdbabaaDoorW.PrintMore

def rightD (d : S93) : Bool := rightB d.f0.f0 d.f0.f1
set_option maxHeartbeats 1000000 in
set_option maxRecDepth 100000 in
theorem wrong_one (d : S93) (w : World) (hs : d.f0.f0.size ≤ 9223372036854775807) : Calls Tryd.prog 61 #[.agg #[.string d.f0.f0, .int .i64 d.f0.f1, .bool d.f1]] w fun e w' => e = .returned (.bool (!rightD d)) ∧ Below w.heap.size w w' := by
  have hu93 := Tryd.underlying93
  have hu23 := Tryd.underlying23
  go_enter Tryd.func61, Tryd.ntmps61
  go_wp2_with (fail)
  refine (call_Right.calls d.f0.f0 d.f0.f1 (rightD d) _ (by unfold call_Right.f; rw [if_pos hs]; rfl)).mono ?_
  rintro e w1 ⟨rfl, hb⟩
  go_wp2
  go_ret
  exact ⟨rfl, below_then ((Below.refl _ _).alloc (Nat.le_refl _) _) (by simp) hb⟩
/-- The first that is not right. -/
def wrongFrom : Nat → List S93 → Int
  | _, [] => -1
  | i, d :: r => if rightD d = true then wrongFrom (i + 1) r else i
def wrongI (l : List S93) : Int := wrongFrom 0 l
set_option maxHeartbeats 1000000 in
set_option maxRecDepth 100000 in
theorem index_wrong (A : Option Addr) (c : Nat) (l : List S93) (w : World) (hr : Kd.C k93 w A l.length l) (hl : l.length ≤ 1000000) (hs : ∀ d ∈ l, d.f0.f0.size ≤ 9223372036854775807) :
    Calls Tryd.prog 87 #[.slice A l.length c, .func (.func 61) #[] #[]] w fun e w' => e = .returned (.int .i64 (wrongI l)) ∧ Below w.heap.size w w' := by
  have HR := Aside0.mk hr
  have HS := Aside0.mk (show ∀ k : Nat, k < l.length → (rd_T93 l k).f0.f0.size ≤ 9223372036854775807 from fun k hk => hs _ (by unfold rd_T93; rw [Int.toNat_natCast, List.getD_eq_getElem?_getD, List.getElem?_eq_getElem hk]; exact List.getElem_mem hk))
  clear hs
  clear hr
  go_enter Tryd.func87, Tryd.ntmps87
  go_wp2
  go_loopw [8] (fun v8 wr => ∃ k : Nat, k ≤ l.length ∧ v8 = .int .i64 k ∧ Aside0 (wrongI l = wrongFrom k (l.drop k)) ∧ Aside0 (Below w.heap.size w wr)) (fun v8 _ => l.length - (intOf v8).toNat)
  case atStart => exact ⟨0, Nat.zero_le _, rfl, ⟨by rw [List.drop_zero]; rfl⟩, ⟨Below.refl _ _⟩⟩
  case round =>
    obtain ⟨k, hk, rfl, HN, HB⟩ := hrel
    by_cases hlt : k < l.length
    · obtain ⟨ad, rfl, x0, x1, x2⟩ := at_T93 HR.out k (by omega) (by omega)
      replace x0 := (HB.out.cell (World.block_lt_of_cell? w _ x0)).trans x0
      replace x1 := (HB.out.cell (World.block_lt_of_cell? w _ x1)).trans x1
      replace x2 := (HB.out.cell (World.block_lt_of_cell? w _ x2)).trans x2
      simp only [Int.toNat_natCast] at x0 x1 x2
      go_wp2_with (go_at_call 61; (with_reducible refine (wrong_one (rd_T93 l k) _ (HS.out k hlt)).mono ?_); rintro e w1 ⟨rfl, hb⟩)
      · rename_i hc
        have hc' : rightD (rd_T93 l k) = false := by simpa using hc
        go_ret
        refine ⟨?_, below_then HB.out HB.out.size hb⟩
        rw [HN.out, drop_T93 l k hlt]
        unfold wrongFrom
        rw [if_neg (by rw [hc']; simp)]
        rfl
      · rename_i hc
        have hc' : rightD (rd_T93 l k) = true := by simpa using hc
        refine ⟨⟨k + 1, by omega, by go_num, ⟨?_⟩, ⟨below_then HB.out HB.out.size hb⟩⟩, by simp [intOf]; omega⟩
        rw [HN.out, drop_T93 l k hlt]
        conv => lhs; unfold wrongFrom
        rw [if_pos hc']
    · obtain rfl : k = l.length := by omega
      go_wp2
      go_ret
      refine ⟨?_, HB.out⟩
      rw [HN.out, List.drop_length]
      rfl

theorem wrongFrom_all : ∀ (l : List S93) (i : Nat), (decide (wrongFrom i l ≥ 0)) = !(l.all rightD)
  | [], i => by simp [wrongFrom]
  | d :: r, i => by
    unfold wrongFrom
    by_cases h : rightD d = true
    · rw [if_pos h, wrongFrom_all r (i + 1)]; simp [h]
    · rw [if_neg h]; simp [h]
set_option maxHeartbeats 1000000 in
set_option maxRecDepth 100000 in
theorem any_wrong (A : Option Addr) (c : Nat) (l : List S93) (w : World) (hr : Kd.C k93 w A l.length l) (hl : l.length ≤ 1000000) (hs : ∀ d ∈ l, d.f0.f0.size ≤ 9223372036854775807) :
    Calls Tryd.prog 62 #[.slice A l.length c, .func (.func 61) #[] #[]] w fun e w' => e = .returned (.bool (!(l.all rightD))) ∧ Below w.heap.size w w' := by
  go_enter Tryd.func62, Tryd.ntmps62
  go_wp2_with (go_at_call 87; (refine (index_wrong A c l _ hr hl hs).mono ?_); rintro e w1 ⟨rfl, hb⟩)
  go_ret
  refine ⟨?_, hb⟩
  rw [← wrongFrom_all l 0]
  rfl
/-- None has sent it behind one that has not. -/
def ordFrom : Bool → List S93 → Bool
  | _, [] => true
  | p, d :: r => (!d.f1 || p) && ordFrom d.f1 r
theorem ordFrom_cons (p : Bool) (d : S93) (r : List S93) : ordFrom p (d :: r) = ((!d.f1 || p) && ordFrom d.f1 r) := rfl
def ordB (l : List S93) : Bool := ordFrom true l && decide (l.length ≤ 8)
theorem ordered_at (l : List S93) (hl : l.length ≤ 1000000) : ∀ (d i k : Nat), l.length - i ≤ d → d + 1 ≤ k → i ≤ l.length →
    path_ordered.l0 k l l (l.length : Int) (i : Int) = some (ordFrom (if i = 0 then true else (rd_T93 l ((i - 1 : Nat) : Int)).f1) (l.drop i) && decide (l.length ≤ 8))
  | d, i, 0, _, hk, _ => absurd hk (by omega)
  | d, i, k + 1, hd, hk, hi => by
    rw [path_ordered.l0]
    by_cases h : i < l.length
    · obtain ⟨d', rfl⟩ : ∃ d', d = d' + 1 := ⟨d - 1, by omega⟩
      have ih := ordered_at l hl d' (i + 1) k (by omega) (by omega) (by omega)
      have hw : wrap64 ((i : Int) + 1) = ((i + 1 : Nat) : Int) := by unfold wrap64; omega
      rw [if_neg (show ¬ i + 1 = 0 by omega), show i + 1 - 1 = i from rfl] at ih
      rw [if_pos (by omega), if_pos (by omega), if_pos (by omega), hw, drop_T93 l i h, ih, ordFrom_cons]
      by_cases h1 : (rd_T93 l (i : Int)).f1 = true
      · rw [if_pos h1]
        by_cases h0 : i = 0
        · subst h0; rw [if_neg (by omega)]; simp [h1]
        · have hw2 : wrap64 ((i : Int) - 1) = ((i - 1 : Nat) : Int) := by unfold wrap64; omega
          rw [if_pos (by omega), hw2, if_pos (by omega), if_pos (by omega), if_neg h0]
          by_cases h2 : (rd_T93 l ((i - 1 : Nat) : Int)).f1 = true
          · rw [if_pos h2, h2, h1]; simp
          · rw [if_neg h2]
            have h2' : (rd_T93 l ((i - 1 : Nat) : Int)).f1 = false := by simpa using h2
            rw [h2', h1]; rfl
      · rw [if_neg h1]
        have h1' : (rd_T93 l (i : Int)).f1 = false := by simpa using h1
        rw [h1']; simp
    · rw [if_neg (by omega), List.drop_eq_nil_of_le (by omega)]
      show _ = some (true && _)
      rw [Bool.true_and]
      congr 1
      exact decide_eq_decide.2 (by omega)
theorem ordered_f (l : List S93) (hl : l.length ≤ 1000000) (k : Nat) (hk : l.length + 1 ≤ k) : path_ordered.f k l = some (ordB l) := by
  have := ordered_at l hl l.length 0 k (by omega) hk (by omega)
  rw [if_pos rfl, List.drop_zero] at this
  exact this
def pathB (a0 : ByteArray) (n0 : Int) (a1 : ByteArray) (n1 : Int) (l : List S93) : Bool := rightB a0 n0 && (rightB a1 n1 && (l.all rightD && ordB l))
def sizesOk (a0 a1 : ByteArray) (l : List S93) : Bool := decide (a0.size ≤ 9223372036854775807) && (decide (a1.size ≤ 9223372036854775807) && (l.all (fun d => decide (d.f0.f0.size ≤ 9223372036854775807)) && decide (l.length ≤ 1000000)))
def path_Right.f (a0_0 : ByteArray) (a0_1 : Int) (a0_2 : ByteArray) (a0_3 : Int) (a0_4 : Bool) (a0_5 : Bool) (l0_6 : List S93) : Option Bool := if sizesOk a0_0 a0_2 l0_6 = true then some (pathB a0_0 a0_1 a0_2 a0_3 l0_6) else none
set_option maxHeartbeats 1000000 in
set_option maxRecDepth 100000 in
theorem path_Right.calls (a0_0 : ByteArray) (a0_1 : Int) (a0_2 : ByteArray) (a0_3 : Int) (a0_4 : Bool) (a0_5 : Bool) (A0_6 : Option Addr) (c0_6 : Nat) (l0_6 : List (S93)) (r : Bool) (w : World) (hr0_6 : Kd.C k93 w A0_6 l0_6.length l0_6) (hc0_6 : l0_6.length ≤ c0_6) (h : path_Right.f a0_0 a0_1 a0_2 a0_3 a0_4 a0_5 l0_6 = some r) :
    Calls Tryd.prog 28 #[.agg #[.string a0_0, .int .i64 a0_1, .string a0_2, .int .i64 a0_3, .bool a0_4, .bool a0_5, .slice A0_6 l0_6.length c0_6]] w fun e w' => e = .returned (.bool r) ∧ Below w.heap.size w w' := by
  unfold path_Right.f at h
  split at h
  case isFalse => cases h
  rename_i hs
  unfold sizesOk at hs
  simp only [Bool.and_eq_true, decide_eq_true_eq, List.all_eq_true] at hs
  obtain ⟨s0, s1, s2, s3⟩ := hs
  have HR_ := Aside0.mk (Option.some.inj h)
  have HR := Aside0.mk hr0_6
  have HS2 := Aside0.mk s2
  clear hr0_6 h s2
  have hu26 := Tryd.underlying26
  have hu23 := Tryd.underlying23
  go_enter Tryd.func28, Tryd.ntmps28
  go_wp2_with (fail)
  refine (call_Right.calls a0_0 a0_1 (rightB a0_0 a0_1) _ (by unfold call_Right.f; rw [if_pos s0])).mono ?_
  rintro e w1 ⟨rfl, hb⟩
  have hz := hb.size
  simp only [World.size_alloc] at hz
  have hblk := (hb.block w.heap.size (by simp)).trans (heap_alloc_new w _)
  have HB1 := Aside0.mk (below_then ((Below.refl w.heap.size w).alloc (Nat.le_refl _) _) (by simp) hb)
  have HK1 := Aside0.mk hblk
  clear hb hblk
  have x2 := blk_cell HK1.out 2
  have x3 := blk_cell HK1.out 3
  have x6 := blk_cell HK1.out 6
  replace x2 : w1.cell? ⟨w.heap.size, 2, none⟩ = some (.string a0_2) := x2
  replace x3 : w1.cell? ⟨w.heap.size, 3, none⟩ = some (.int .i64 a0_3) := x3
  replace x6 : w1.cell? ⟨w.heap.size, 6, none⟩ = some (.slice A0_6 l0_6.length c0_6) := x6
  cases hr0 : rightB a0_0 a0_1 with
  | false =>
    have HQ := Aside0.mk (show pathB a0_0 a0_1 a0_2 a0_3 l0_6 = false by unfold pathB; rw [hr0]; rfl)
    clear hr0
    go_wp2_with (fail)
    go_ret
    exact ⟨by rw [← HR_.out, HQ.out]; rfl, HB1.out⟩
  | true =>
    have HQ := Aside0.mk (show pathB a0_0 a0_1 a0_2 a0_3 l0_6 = (rightB a0_2 a0_3 && (l0_6.all rightD && ordB l0_6)) by unfold pathB; rw [hr0]; rfl)
    clear hr0
    go_wp2_with (fail)
    refine (call_Right.calls a0_2 a0_3 (rightB a0_2 a0_3) _ (by unfold call_Right.f; rw [if_pos s1])).mono ?_
    rintro e w2 ⟨rfl, hb⟩
    have hblk := (hb.block w.heap.size (by omega)).trans HK1.out
    have HB2 := Aside0.mk (below_then HB1.out (by omega) hb)
    have HK2 := Aside0.mk hblk
    have hz2 := hb.size
    clear hb hblk x2 x3 x6
    have x6 := blk_cell HK2.out 6
    replace x6 : w2.cell? ⟨w.heap.size, 6, none⟩ = some (.slice A0_6 l0_6.length c0_6) := x6
    cases hr1 : rightB a0_2 a0_3 with
    | false =>
      have HQ2 := Aside0.mk (HQ.out.trans (show _ = false by rw [hr1]; rfl))
      clear hr1
      go_wp2_with (fail)
      go_ret
      exact ⟨by rw [← HR_.out, HQ2.out]; rfl, HB2.out⟩
    | true =>
      have HQ2 := Aside0.mk (HQ.out.trans (show _ = (l0_6.all rightD && ordB l0_6) by rw [hr1]; rfl))
      clear hr1
      go_wp2_with (fail)
      refine (any_wrong A0_6 c0_6 l0_6 _ (Kd.C_below HR.out HB2.out) s3 HS2.out).mono ?_
      rintro e w3 ⟨rfl, hb⟩
      have hblk := (hb.block w.heap.size (by omega)).trans HK2.out
      have HB3 := Aside0.mk (below_then HB2.out (by omega) hb)
      have HK3 := Aside0.mk hblk
      have hz3 := hb.size
      clear hb hblk x6
      have x6 := blk_cell HK3.out 6
      replace x6 : w3.cell? ⟨w.heap.size, 6, none⟩ = some (.slice A0_6 l0_6.length c0_6) := x6
      cases hr2 : l0_6.all rightD with
      | false =>
        have HQ3 := Aside0.mk (HQ2.out.trans (show _ = false by rw [hr2]; rfl))
        clear hr2
        go_wp2_with (fail)
        go_ret
        exact ⟨by rw [← HR_.out, HQ3.out]; rfl, HB3.out⟩
      | true =>
        have HQ3 := Aside0.mk (HQ2.out.trans (show _ = ordB l0_6 by rw [hr2]; rfl))
        clear hr2
        go_wp2_with (fail)
        refine (path_ordered.calls (l0_6.length + 1) A0_6 c0_6 l0_6 (ordB l0_6) _ (Kd.C_below HR.out HB3.out) hc0_6 (ordered_f l0_6 s3 _ (Nat.le_refl _))).mono ?_
        rintro e w4 ⟨rfl, hb⟩
        go_wp2_with (fail)
        go_ret
        exact ⟨by rw [← HR_.out, HQ3.out]; rfl, below_then HB3.out (by omega) hb⟩
end Go.Proofs.YtpmieapgbdbabaaDoor.QAll
end

section
/- Walks, written by a program of this session (wip/pp): a Go function comes to what the Lean function beside it tells. -/
namespace Go.Proofs.YtpmieapgbdbabaaDoor.QAll
open Go.RowKit Go.Proofs.YtpmieapgbdbabaaDoorW.PrintWords Go.Proofs.YtpmieapgbdbabaaDoorW.PrintLast Go.Proofs.YtpmieapgbdbabaaDoorW.PrintMore
attribute [local go_sem] max2_int min2_int max_two min_two max_three min_three max_four min_four
set_option linter.unusedVariables false
set_option linter.unusedSimpArgs false

def path_Via.l0 : Nat → List (S23) → Int → Int → ByteArray → Int → ByteArray → Int → Bool → Bool → List (S93) → Option (ByteArray × Int × ByteArray × Int × Bool × Bool × (List (S93)) × Int)
 | 0, _, _, _, _, _, _, _, _, _, _ => none
 | k + 1, x19, x20, x21, x120000, x120001, x120002, x120003, x120004, x120005, x120006 => if x21 < x20 then (if 0 ≤ x21 then (if x21 < (x19.length : Int) then (if x120006.length < 4398046511104 then (path_Via.l0 k x19 x20 (wrap64 (x21 + 1)) x120000 x120001 x120002 x120003 x120004 x120005 (x120006 ++ [(⟨(⟨(rd_T23 x19 x21).f0, (rd_T23 x19 x21).f1⟩ : S23), false⟩ : S93)])) else (none)) else (none)) else (none)) else ((path_Right.f x120000 x120001 x120002 x120003 x120004 x120005 x120006).bind fun t125 => (if t125 = true then (some (x120000, x120001, x120002, x120003, x120004, x120005, x120006, 0)) else (some ((⟨#[]⟩ : ByteArray), 0, (⟨#[]⟩ : ByteArray), 0, false, false, ([] : List (S93)), 11))))
def path_Via.f (k : Nat) (a0_0 : ByteArray) (a0_1 : Int) (a1_0 : ByteArray) (a1_1 : Int) (a2 : Bool) (l3 : List (S23)) : Option (ByteArray × Int × ByteArray × Int × Bool × Bool × (List (S93)) × Int) := path_Via.l0 k l3 (l3.length : Int) 0 a1_0 a1_1 a0_0 a0_1 a2 (!a2) ([] : List (S93))
set_option maxHeartbeats 8000000 in
set_option maxRecDepth 100000 in
theorem path_Via.calls (k : Nat) (a0_0 : ByteArray) (a0_1 : Int) (a1_0 : ByteArray) (a1_1 : Int) (a2 : Bool) (A3 : Option Addr) (c3 : Nat) (l3 : List (S23)) (r1 : ByteArray) (r2 : Int) (r3 : ByteArray) (r4 : Int) (r5 : Bool) (r6 : Bool) (r7 : List (S93)) (r8 : Int) (w : World) (hr3 : Kd.C k23 w A3 l3.length l3) (hc3 : l3.length ≤ c3) (h : path_Via.f k a0_0 a0_1 a1_0 a1_1 a2 l3 = some (r1, r2, r3, r4, r5, r6, r7, r8)) :
  Calls Tryd.prog 27 #[.agg #[.string a0_0, .int .i64 a0_1], .agg #[.string a1_0, .int .i64 a1_1], .bool a2, .slice A3 l3.length c3] w fun e w' => ∃ v6_ : Value, e = .returned (.tuple #[.agg #[.string r1, .int .i64 r2, .string r3, .int .i64 r4, .bool r5, .bool r6, v6_], .int .i64 r8]) ∧ Kd.R k93 93 w' w.heap.size (fun _ => True) v6_ r7 ∧ Below w.heap.size w w' := by
 have hu23 := Tryd.underlying23
 have hu26 := Tryd.underlying26
 have hu93 := Tryd.underlying93
 have HR3 := Aside0.mk hr3
 have HC3 := Aside0.mk hc3
 clear hr3 hc3
 have HB := Aside0.mk (Below.refl w.heap.size w)
 have H : (path_Via.l0 k l3 (l3.length : Int) 0 a1_0 a1_1 a0_0 a0_1 a2 (!a2) ([] : List (S93))) = some (r1, r2, r3, r4, r5, r6, r7, r8) := h
 clear h
 have H' := Aside0.mk H
 clear H
 go_enter Tryd.func27, Tryd.ntmps27
 go_wp2_with (first | ((with_reducible refine gate_dst (N := 4) rfl ?_); refine box_event ?hg (N := 4) ?hd (cs := #[.string a0_0, .int .i64 a0_1]) (t := 23) ?hr ?_; (case hd => rfl); (case hg => rfl); (case hr => first | (go_simp; done) | (go_simp; rfl)); intro gb116 hg w5 hbox hb; have n0_ := Aside0.mk (below_step (by repeat (first | (with_reducible first | exact HB.out | apply below_alloc | apply pw_below_drewN | apply below_drew1) | exact HB.out)) hb); have n1_ := Aside0.mk (hbox); have n2_ := Aside0.mk ((by rw [hg]; exact (below_size (by repeat (first | (with_reducible first | exact HB.out | apply below_alloc | apply pw_below_drewN | apply below_drew1) | exact HB.out))) : w.heap.size ≤ gb116)); have n3_ := Aside0.mk ((by rw [hg]; exact (below_size (by repeat (first | (with_reducible first | exact HB.out | apply below_alloc | apply pw_below_drewN | apply below_drew1) | exact HB.out))) : w.heap.size ≤ gb116)); clear HB; have HB := n0_; have BK116 := n1_; have GW116 := n2_; have GE116 := n3_; clear n0_ n1_ n2_ n3_; clear hb hbox hg) | ((with_reducible refine gate_dst (N := 5) rfl ?_); refine box_event ?hg (N := 5) ?hd (cs := #[.string a1_0, .int .i64 a1_1]) (t := 23) ?hr ?_; (case hd => rfl); (case hg => rfl); (case hr => first | (go_simp; done) | (go_simp; rfl)); intro gb117 hg w6 hbox hb; have n0_ := Aside0.mk (blk_below (g := gb116) (o := .cells #[.string a0_0, .int .i64 a0_1] 23 (0, 0)) (by (with_reducible repeat (first | refine blk_drewN ?_ _ | refine blk_drew ?_ | refine blk_alloc ?_ _)); exact BK116.out) hb); have n1_ := Aside0.mk (below_step (by repeat (first | (with_reducible first | exact HB.out | apply below_alloc | apply pw_below_drewN | apply below_drew1 | refine below_set ?_ GE116.out) | exact HB.out)) hb); have n2_ := Aside0.mk (hbox); have n3_ := Aside0.mk ((by rw [hg]; exact (below_size (by repeat (first | (with_reducible first | exact HB.out | apply below_alloc | apply pw_below_drewN | apply below_drew1 | refine below_set ?_ GE116.out) | exact HB.out))) : w.heap.size ≤ gb117)); have n4_ := Aside0.mk ((by rw [hg]; exact (below_size (by repeat (first | (with_reducible first | exact HB.out | apply below_alloc | apply pw_below_drewN | apply below_drew1 | refine below_set ?_ GE116.out) | exact HB.out))) : w.heap.size ≤ gb117)); have n5_ := Aside0.mk ((by rw [hg]; exact Nat.ne_of_lt (blk_lt (g := gb116) (o := .cells #[.string a0_0, .int .i64 a0_1] 23 (0, 0)) (by (with_reducible repeat (first | refine blk_drewN ?_ _ | refine blk_drew ?_ | refine blk_alloc ?_ _)); exact BK116.out)) : gb116 ≠ gb117)); have n6_ := Aside0.mk ((by rw [hg]; exact Nat.ne_of_gt (blk_lt (g := gb116) (o := .cells #[.string a0_0, .int .i64 a0_1] 23 (0, 0)) (by (with_reducible repeat (first | refine blk_drewN ?_ _ | refine blk_drew ?_ | refine blk_alloc ?_ _)); exact BK116.out)) : gb117 ≠ gb116)); clear BK116; clear HB; have BK116 := n0_; have HB := n1_; have BK117 := n2_; have GW117 := n3_; have GE117 := n4_; have NB116_117 := n5_; have NB117_116 := n6_; clear n0_ n1_ n2_ n3_ n4_ n5_ n6_; clear hb hbox hg) | ((with_reducible refine gate_dst (N := 8) rfl ?_); refine box_event ?hg (N := 8) ?hd (cs := #[.string (⟨#[]⟩ : ByteArray), .int .i64 0, .string (⟨#[]⟩ : ByteArray), .int .i64 0, .bool false, .bool false, .slice none 0 0]) (t := 26) ?hr ?_; (case hd => rfl); (case hg => rfl); (case hr => first | (go_simp; done) | (go_simp; rfl)); intro gb118 hg w7 hbox hb; have n0_ := Aside0.mk (blk_below (g := gb116) (o := .cells #[.string a0_0, .int .i64 a0_1] 23 (0, 0)) (by (with_reducible repeat (first | refine blk_drewN ?_ _ | refine blk_drew ?_ | refine blk_alloc ?_ _)); exact BK116.out) hb); have n1_ := Aside0.mk (blk_below (g := gb117) (o := .cells #[.string a1_0, .int .i64 a1_1] 23 (0, 0)) (by (with_reducible repeat (first | refine blk_drewN ?_ _ | refine blk_drew ?_ | refine blk_alloc ?_ _)); exact BK117.out) hb); have n2_ := Aside0.mk (below_step (by repeat (first | (with_reducible first | exact HB.out | apply below_alloc | apply pw_below_drewN | apply below_drew1 | refine below_set ?_ GE116.out | refine below_set ?_ GE117.out) | exact HB.out)) hb); have n3_ := Aside0.mk (hbox); have n4_ := Aside0.mk ((by rw [hg]; exact (below_size (by repeat (first | (with_reducible first | exact HB.out | apply below_alloc | apply pw_below_drewN | apply below_drew1 | refine below_set ?_ GE116.out | refine below_set ?_ GE117.out) | exact HB.out))) : w.heap.size ≤ gb118)); have n5_ := Aside0.mk ((by rw [hg]; exact (below_size (by repeat (first | (with_reducible first | exact HB.out | apply below_alloc | apply pw_below_drewN | apply below_drew1 | refine below_set ?_ GE116.out | refine below_set ?_ GE117.out) | exact HB.out))) : w.heap.size ≤ gb118)); have n6_ := Aside0.mk ((by rw [hg]; exact Nat.ne_of_lt (blk_lt (g := gb116) (o := .cells #[.string a0_0, .int .i64 a0_1] 23 (0, 0)) (by (with_reducible repeat (first | refine blk_drewN ?_ _ | refine blk_drew ?_ | refine blk_alloc ?_ _)); exact BK116.out)) : gb116 ≠ gb118)); have n7_ := Aside0.mk ((by rw [hg]; exact Nat.ne_of_gt (blk_lt (g := gb116) (o := .cells #[.string a0_0, .int .i64 a0_1] 23 (0, 0)) (by (with_reducible repeat (first | refine blk_drewN ?_ _ | refine blk_drew ?_ | refine blk_alloc ?_ _)); exact BK116.out)) : gb118 ≠ gb116)); have n8_ := Aside0.mk ((by rw [hg]; exact Nat.ne_of_lt (blk_lt (g := gb117) (o := .cells #[.string a1_0, .int .i64 a1_1] 23 (0, 0)) (by (with_reducible repeat (first | refine blk_drewN ?_ _ | refine blk_drew ?_ | refine blk_alloc ?_ _)); exact BK117.out)) : gb117 ≠ gb118)); have n9_ := Aside0.mk ((by rw [hg]; exact Nat.ne_of_gt (blk_lt (g := gb117) (o := .cells #[.string a1_0, .int .i64 a1_1] 23 (0, 0)) (by (with_reducible repeat (first | refine blk_drewN ?_ _ | refine blk_drew ?_ | refine blk_alloc ?_ _)); exact BK117.out)) : gb118 ≠ gb117)); clear BK116; clear BK117; clear HB; have BK116 := n0_; have BK117 := n1_; have HB := n2_; have BK118 := n3_; have GW118 := n4_; have GE118 := n5_; have NB116_118 := n6_; have NB118_116 := n7_; have NB117_118 := n8_; have NB118_117 := n9_; clear n0_ n1_ n2_ n3_ n4_ n5_ n6_ n7_ n8_ n9_; clear hb hbox hg; have hnb8 := NB117_116.out; have hnc8 := NB116_117.out; have hnb9 := NB117_118.out; have hnc9 := NB118_117.out; have hcz10_0 : w7.cell? ⟨gb117, 0, none⟩ = some (.string a1_0) := (blk_cell BK117.out 0).trans rfl; have hcz10_1 : w7.cell? ⟨gb117, 1, none⟩ = some (.int .i64 a1_1) := (blk_cell BK117.out 1).trans rfl; have hfz10_0 := blk_frozen BK117.out 0; have hfz10_1 := blk_frozen BK117.out 1; have hnb11 := NB116_118.out; have hnc11 := NB118_116.out; have hcz12_0 : w7.cell? ⟨gb116, 0, none⟩ = some (.string a0_0) := (blk_cell BK116.out 0).trans rfl; have hcz12_1 : w7.cell? ⟨gb116, 1, none⟩ = some (.int .i64 a0_1) := (blk_cell BK116.out 1).trans rfl; have hfz12_0 := blk_frozen BK116.out 0; have hfz12_1 := blk_frozen BK116.out 1) | ((with_reducible refine gate_dst (N := 10) rfl ?_); refine box_event ?hg (N := 10) ?hd (cs := #[.string (⟨#[]⟩ : ByteArray), .int .i64 0, .string (⟨#[]⟩ : ByteArray), .int .i64 0, .bool false, .bool false, .slice none 0 0]) (t := 26) ?hr ?_; (case hd => rfl); (case hg => rfl); (case hr => first | (go_simp; done) | (go_simp; rfl)); intro gb119 hg w13 hbox hb; have n0_ := Aside0.mk (blk_below (g := gb116) (o := .cells #[.string a0_0, .int .i64 a0_1] 23 (0, 0)) (by (with_reducible repeat (first | refine blk_drewN ?_ _ | refine blk_drew ?_ | refine blk_alloc ?_ _)); exact BK116.out) hb); have n1_ := Aside0.mk (blk_below (g := gb117) (o := .cells #[.string a1_0, .int .i64 a1_1] 23 (0, 0)) (by (with_reducible repeat (first | refine blk_drewN ?_ _ | refine blk_drew ?_ | refine blk_alloc ?_ _)); exact BK117.out) hb); have n2_ := Aside0.mk (blk_below (g := gb118) (o := .cells #[.string (⟨#[]⟩ : ByteArray), .int .i64 0, .string (⟨#[]⟩ : ByteArray), .int .i64 0, .bool false, .bool false, .slice none 0 0] 26 (0, 0)) (by (with_reducible repeat (first | refine blk_drewN ?_ _ | refine blk_drew ?_ | refine blk_alloc ?_ _)); exact BK118.out) hb); have n3_ := Aside0.mk (below_step (by repeat (first | (with_reducible first | exact HB.out | apply below_alloc | apply pw_below_drewN | apply below_drew1 | refine below_set ?_ GE116.out | refine below_set ?_ GE117.out | refine below_set ?_ GE118.out) | exact HB.out)) hb); have n4_ := Aside0.mk (hbox); have n5_ := Aside0.mk ((by rw [hg]; exact (below_size (by repeat (first | (with_reducible first | exact HB.out | apply below_alloc | apply pw_below_drewN | apply below_drew1 | refine below_set ?_ GE116.out | refine below_set ?_ GE117.out | refine below_set ?_ GE118.out) | exact HB.out))) : w.heap.size ≤ gb119)); have n6_ := Aside0.mk ((by rw [hg]; exact (below_size (by repeat (first | (with_reducible first | exact HB.out | apply below_alloc | apply pw_below_drewN | apply below_drew1 | refine below_set ?_ GE116.out | refine below_set ?_ GE117.out | refine below_set ?_ GE118.out) | exact HB.out))) : w.heap.size ≤ gb119)); have n7_ := Aside0.mk ((by rw [hg]; exact Nat.ne_of_lt (blk_lt (g := gb116) (o := .cells #[.string a0_0, .int .i64 a0_1] 23 (0, 0)) (by (with_reducible repeat (first | refine blk_drewN ?_ _ | refine blk_drew ?_ | refine blk_alloc ?_ _)); exact BK116.out)) : gb116 ≠ gb119)); have n8_ := Aside0.mk ((by rw [hg]; exact Nat.ne_of_gt (blk_lt (g := gb116) (o := .cells #[.string a0_0, .int .i64 a0_1] 23 (0, 0)) (by (with_reducible repeat (first | refine blk_drewN ?_ _ | refine blk_drew ?_ | refine blk_alloc ?_ _)); exact BK116.out)) : gb119 ≠ gb116)); have n9_ := Aside0.mk ((by rw [hg]; exact Nat.ne_of_lt (blk_lt (g := gb117) (o := .cells #[.string a1_0, .int .i64 a1_1] 23 (0, 0)) (by (with_reducible repeat (first | refine blk_drewN ?_ _ | refine blk_drew ?_ | refine blk_alloc ?_ _)); exact BK117.out)) : gb117 ≠ gb119)); have n10_ := Aside0.mk ((by rw [hg]; exact Nat.ne_of_gt (blk_lt (g := gb117) (o := .cells #[.string a1_0, .int .i64 a1_1] 23 (0, 0)) (by (with_reducible repeat (first | refine blk_drewN ?_ _ | refine blk_drew ?_ | refine blk_alloc ?_ _)); exact BK117.out)) : gb119 ≠ gb117)); have n11_ := Aside0.mk ((by rw [hg]; exact Nat.ne_of_lt (blk_lt (g := gb118) (o := .cells #[.string (⟨#[]⟩ : ByteArray), .int .i64 0, .string (⟨#[]⟩ : ByteArray), .int .i64 0, .bool false, .bool false, .slice none 0 0] 26 (0, 0)) (by (with_reducible repeat (first | refine blk_drewN ?_ _ | refine blk_drew ?_ | refine blk_alloc ?_ _)); exact BK118.out)) : gb118 ≠ gb119)); have n12_ := Aside0.mk ((by rw [hg]; exact Nat.ne_of_gt (blk_lt (g := gb118) (o := .cells #[.string (⟨#[]⟩ : ByteArray), .int .i64 0, .string (⟨#[]⟩ : ByteArray), .int .i64 0, .bool false, .bool false, .slice none 0 0] 26 (0, 0)) (by (with_reducible repeat (first | refine blk_drewN ?_ _ | refine blk_drew ?_ | refine blk_alloc ?_ _)); exact BK118.out)) : gb119 ≠ gb118)); clear BK116; clear BK117; clear BK118; clear HB; have BK116 := n0_; have BK117 := n1_; have BK118 := n2_; have HB := n3_; have BK119 := n4_; have GW119 := n5_; have GE119 := n6_; have NB116_119 := n7_; have NB119_116 := n8_; have NB117_119 := n9_; have NB119_117 := n10_; have NB118_119 := n11_; have NB119_118 := n12_; clear n0_ n1_ n2_ n3_ n4_ n5_ n6_ n7_ n8_ n9_ n10_ n11_ n12_; clear hb hbox hg; have hnb14 := NB119_116.out; have hnc14 := NB116_119.out; have hnb15 := NB119_117.out; have hnc15 := NB117_119.out; have hnb16 := NB119_118.out; have hnc16 := NB118_119.out; have hcz17_0 : w13.cell? ⟨gb119, 0, none⟩ = some (.string (⟨#[]⟩ : ByteArray)) := (blk_cell BK119.out 0).trans rfl; have hcz17_1 : w13.cell? ⟨gb119, 1, none⟩ = some (.int .i64 0) := (blk_cell BK119.out 1).trans rfl; have hcz17_2 : w13.cell? ⟨gb119, 2, none⟩ = some (.string (⟨#[]⟩ : ByteArray)) := (blk_cell BK119.out 2).trans rfl; have hcz17_3 : w13.cell? ⟨gb119, 3, none⟩ = some (.int .i64 0) := (blk_cell BK119.out 3).trans rfl; have hcz17_4 : w13.cell? ⟨gb119, 4, none⟩ = some (.bool false) := (blk_cell BK119.out 4).trans rfl; have hcz17_5 : w13.cell? ⟨gb119, 5, none⟩ = some (.bool false) := (blk_cell BK119.out 5).trans rfl; have hcz17_6 : w13.cell? ⟨gb119, 6, none⟩ = some (.slice none 0 0) := (blk_cell BK119.out 6).trans rfl; have hfz17_0 := blk_frozen BK119.out 0; have hfz17_1 := blk_frozen BK119.out 1; have hfz17_2 := blk_frozen BK119.out 2; have hfz17_3 := blk_frozen BK119.out 3; have hfz17_4 := blk_frozen BK119.out 4; have hfz17_5 := blk_frozen BK119.out 5; have hfz17_6 := blk_frozen BK119.out 6))
 go_loopg [21] k (fun kq v21 w' => ∃ (x21_1 : Int) (x120006_1 : List (S93)) (u120006 : Value), v21 = .int .i64 x21_1 ∧ Aside0 (path_Via.l0 kq l3 (l3.length : Int) x21_1 a1_0 a1_1 a0_0 a0_1 a2 (!a2) x120006_1 = some (r1, r2, r3, r4, r5, r6, r7, r8)) ∧ Aside0 (kq ≤ k) ∧ Aside0 (Kd.R k93 93 w' w.heap.size (fun _ => True) u120006 x120006_1) ∧ Aside0 (w'.heap[gb116]? = some (.cells #[.string a0_0, .int .i64 a0_1] 23 (0, 0))) ∧ Aside0 (w'.heap[gb117]? = some (.cells #[.string a1_0, .int .i64 a1_1] 23 (0, 0))) ∧ Aside0 (w'.heap[gb118]? = some (.cells #[.string (⟨#[]⟩ : ByteArray), .int .i64 0, .string (⟨#[]⟩ : ByteArray), .int .i64 0, .bool false, .bool false, (.slice none 0 0)] 26 (0, 0))) ∧ Aside0 (w'.heap[gb119]? = some (.cells #[.string a1_0, .int .i64 a1_1, .string a0_0, .int .i64 a0_1, .bool a2, .bool (!a2), u120006] 26 (0, 0))) ∧ Aside0 (Below w.heap.size w w'))
 case atStart => exact ⟨(0), (([] : List (S93))), (.slice none 0 0), (by first | rfl | (simp; done) | (simp [*]; done) | (simp; exact (fun l : List UInt8 => (by cases l <;> rfl : l.isEmpty = !(l != []))) _)), H', ⟨Nat.le_refl _⟩, ⟨by first | exact Kd.R_nil _ _ _ _ _ | exact Kd.N_nil _ _ _ _ _ | exact Kd.V_nil _ _ _ _ _ | exact Kd.Q_nil _ _ _ _ _ | exact Kd.S_nil _ _ _ _ _⟩, ⟨by (with_reducible repeat (first | refine blk_drewN ?_ _ | refine blk_drew ?_ | refine blk_alloc ?_ _)); refine blk_far ?_ NB116_119.out _; (with_reducible repeat (first | refine blk_drewN ?_ _ | refine blk_drew ?_ | refine blk_alloc ?_ _)); refine blk_far ?_ NB116_119.out _; (with_reducible repeat (first | refine blk_drewN ?_ _ | refine blk_drew ?_ | refine blk_alloc ?_ _)); refine blk_far ?_ NB116_119.out _; (with_reducible repeat (first | refine blk_drewN ?_ _ | refine blk_drew ?_ | refine blk_alloc ?_ _)); refine blk_far ?_ NB116_119.out _; (with_reducible repeat (first | refine blk_drewN ?_ _ | refine blk_drew ?_ | refine blk_alloc ?_ _)); refine blk_far ?_ NB116_119.out _; (with_reducible repeat (first | refine blk_drewN ?_ _ | refine blk_drew ?_ | refine blk_alloc ?_ _)); refine blk_far ?_ NB116_119.out _; (with_reducible repeat (first | refine blk_drewN ?_ _ | refine blk_drew ?_ | refine blk_alloc ?_ _)); refine blk_far ?_ NB116_119.out _; (with_reducible repeat (first | refine blk_drewN ?_ _ | refine blk_drew ?_ | refine blk_alloc ?_ _)); exact BK116.out⟩, ⟨by (with_reducible repeat (first | refine blk_drewN ?_ _ | refine blk_drew ?_ | refine blk_alloc ?_ _)); refine blk_far ?_ NB117_119.out _; (with_reducible repeat (first | refine blk_drewN ?_ _ | refine blk_drew ?_ | refine blk_alloc ?_ _)); refine blk_far ?_ NB117_119.out _; (with_reducible repeat (first | refine blk_drewN ?_ _ | refine blk_drew ?_ | refine blk_alloc ?_ _)); refine blk_far ?_ NB117_119.out _; (with_reducible repeat (first | refine blk_drewN ?_ _ | refine blk_drew ?_ | refine blk_alloc ?_ _)); refine blk_far ?_ NB117_119.out _; (with_reducible repeat (first | refine blk_drewN ?_ _ | refine blk_drew ?_ | refine blk_alloc ?_ _)); refine blk_far ?_ NB117_119.out _; (with_reducible repeat (first | refine blk_drewN ?_ _ | refine blk_drew ?_ | refine blk_alloc ?_ _)); refine blk_far ?_ NB117_119.out _; (with_reducible repeat (first | refine blk_drewN ?_ _ | refine blk_drew ?_ | refine blk_alloc ?_ _)); refine blk_far ?_ NB117_119.out _; (with_reducible repeat (first | refine blk_drewN ?_ _ | refine blk_drew ?_ | refine blk_alloc ?_ _)); exact BK117.out⟩, ⟨by (with_reducible repeat (first | refine blk_drewN ?_ _ | refine blk_drew ?_ | refine blk_alloc ?_ _)); refine blk_far ?_ NB118_119.out _; (with_reducible repeat (first | refine blk_drewN ?_ _ | refine blk_drew ?_ | refine blk_alloc ?_ _)); refine blk_far ?_ NB118_119.out _; (with_reducible repeat (first | refine blk_drewN ?_ _ | refine blk_drew ?_ | refine blk_alloc ?_ _)); refine blk_far ?_ NB118_119.out _; (with_reducible repeat (first | refine blk_drewN ?_ _ | refine blk_drew ?_ | refine blk_alloc ?_ _)); refine blk_far ?_ NB118_119.out _; (with_reducible repeat (first | refine blk_drewN ?_ _ | refine blk_drew ?_ | refine blk_alloc ?_ _)); refine blk_far ?_ NB118_119.out _; (with_reducible repeat (first | refine blk_drewN ?_ _ | refine blk_drew ?_ | refine blk_alloc ?_ _)); refine blk_far ?_ NB118_119.out _; (with_reducible repeat (first | refine blk_drewN ?_ _ | refine blk_drew ?_ | refine blk_alloc ?_ _)); refine blk_far ?_ NB118_119.out _; (with_reducible repeat (first | refine blk_drewN ?_ _ | refine blk_drew ?_ | refine blk_alloc ?_ _)); exact BK118.out⟩, ⟨by (with_reducible repeat (first | refine blk_drewN ?_ _ | refine blk_drew ?_ | refine blk_alloc ?_ _)); refine blk_put (cs := #[.string a1_0, .int .i64 a1_1, .string a0_0, .int .i64 a0_1, .bool a2, .bool (!a2), .slice none 0 0]) ?_ 6 _ rfl; (with_reducible repeat (first | refine blk_drewN ?_ _ | refine blk_drew ?_ | refine blk_alloc ?_ _)); refine blk_put (cs := #[.string a1_0, .int .i64 a1_1, .string a0_0, .int .i64 a0_1, .bool a2, .bool false, .slice none 0 0]) ?_ 5 _ rfl; (with_reducible repeat (first | refine blk_drewN ?_ _ | refine blk_drew ?_ | refine blk_alloc ?_ _)); refine blk_put (cs := #[.string a1_0, .int .i64 a1_1, .string a0_0, .int .i64 a0_1, .bool false, .bool false, .slice none 0 0]) ?_ 4 _ rfl; (with_reducible repeat (first | refine blk_drewN ?_ _ | refine blk_drew ?_ | refine blk_alloc ?_ _)); refine blk_put (cs := #[.string a1_0, .int .i64 a1_1, .string a0_0, .int .i64 0, .bool false, .bool false, .slice none 0 0]) ?_ 3 _ rfl; (with_reducible repeat (first | refine blk_drewN ?_ _ | refine blk_drew ?_ | refine blk_alloc ?_ _)); refine blk_put (cs := #[.string a1_0, .int .i64 a1_1, .string (⟨#[]⟩ : ByteArray), .int .i64 0, .bool false, .bool false, .slice none 0 0]) ?_ 2 _ rfl; (with_reducible repeat (first | refine blk_drewN ?_ _ | refine blk_drew ?_ | refine blk_alloc ?_ _)); refine blk_put (cs := #[.string a1_0, .int .i64 0, .string (⟨#[]⟩ : ByteArray), .int .i64 0, .bool false, .bool false, .slice none 0 0]) ?_ 1 _ rfl; (with_reducible repeat (first | refine blk_drewN ?_ _ | refine blk_drew ?_ | refine blk_alloc ?_ _)); refine blk_put (cs := #[.string (⟨#[]⟩ : ByteArray), .int .i64 0, .string (⟨#[]⟩ : ByteArray), .int .i64 0, .bool false, .bool false, .slice none 0 0]) ?_ 0 _ rfl; (with_reducible repeat (first | refine blk_drewN ?_ _ | refine blk_drew ?_ | refine blk_alloc ?_ _)); exact BK119.out⟩, ⟨by repeat (first | (with_reducible first | exact HB.out | apply below_alloc | apply pw_below_drewN | apply below_drew1 | refine below_set ?_ GE116.out | refine below_set ?_ GE117.out | refine below_set ?_ GE118.out | refine below_set ?_ GE119.out) | exact HB.out)⟩⟩
 case round =>
  clear H'
  try clear c1
  try clear c2
  try clear p2
  try clear c3
  try clear c8
  try clear c9
  try clear c11
  try clear c14
  try clear c15
  try clear c16
  try clear hcz10_0
  try clear hcz10_1
  try clear hcz12_0
  try clear hcz12_1
  try clear hcz17_0
  try clear hcz17_1
  try clear hcz17_2
  try clear hcz17_3
  try clear hcz17_4
  try clear hcz17_5
  try clear hcz17_6
  try clear hfz10_0
  try clear hfz10_1
  try clear hfz12_0
  try clear hfz12_1
  try clear hfz17_0
  try clear hfz17_1
  try clear hfz17_2
  try clear hfz17_3
  try clear hfz17_4
  try clear hfz17_5
  try clear hfz17_6
  obtain ⟨x21_1, x120006_1, u120006, rfl, HA, HK1, HO_120006, BK116, BK117, BK118, BK119, HB⟩ := hrel
  cases gk with
  | zero => exact absurd HA.out (by simp [path_Via.l0])
  | succ k1 =>
   have H := HA.out
   clear HA
   simp only [path_Via.l0] at H
   by_cases c18 : x21_1 < (l3.length : Int)
   ·rw [if_pos c18] at H
    have c18b0 : decide (x21_1 < (l3.length : Int)) = true := decide_eq_true c18
    clear c18
    by_cases c19 : 0 ≤ x21_1
    ·rw [if_pos c19] at H
     have c19b0 : decide (0 ≤ x21_1) = true := decide_eq_true c19
     clear c19
     by_cases c20 : x21_1 < (l3.length : Int)
     ·rw [if_pos c20] at H
      have c20b0 : decide (x21_1 < (l3.length : Int)) = true := decide_eq_true c20
      clear c20
      by_cases c21 : x120006_1.length < 4398046511104
      ·rw [if_pos c21] at H
       have LMc21 := Aside0.mk c21
       clear c21
       obtain ⟨y122, hy122⟩ : ∃ y_ : List (S93), y_ = (x120006_1 ++ [(⟨(⟨(rd_T23 l3 x21_1).f0, (rd_T23 l3 x21_1).f1⟩ : S23), false⟩ : S93)]) := ⟨_, rfl⟩
       replace H : (path_Via.l0 k1 l3 (l3.length : Int) (wrap64 (x21_1 + 1)) a1_0 a1_1 a0_0 a0_1 a2 (!a2) y122) = some (r1, r2, r3, r4, r5, r6, r7, r8) := by first | (rw [hy122]; with_reducible exact H) | (have H2_ := (Option.bind_some _ _).symm.trans H; rw [hy122]; with_reducible exact H2_) | (have H2_ := (Option.bind_some _ _).symm.trans H; with_reducible exact H2_) | with_reducible exact H | (rw [hy122]; exact H) | exact H
       have Ny122 := Aside0.mk hy122
       clear hy122
       have H' := Aside0.mk H
       clear H
       have p120 : 0 ≤ (x21_1 : Int) := of_decide_eq_true (by first | (with_reducible assumption) | assumption)
       have q120 : x21_1 < (l3.length : Int) := of_decide_eq_true (by first | (with_reducible assumption) | assumption)
       obtain ⟨ad120, e120, hx120_0, hx120_1⟩ := at_T23 HR3.out x21_1 p120 q120
       cases e120
       replace hx120_0 := (HB.out.cell (World.block_lt_of_cell? w _ hx120_0)).trans hx120_0
       replace hx120_1 := (HB.out.cell (World.block_lt_of_cell? w _ hx120_1)).trans hx120_1
       replace p120 := eq_true p120
       replace q120 := eq_true q120
       go_wp2_with (first | ((with_reducible refine gate_dst (N := 12) rfl ?_); refine box_event ?hg (N := 12) ?hd (cs := #[.string (⟨#[]⟩ : ByteArray), .int .i64 0]) (t := 23) ?hr ?_; (case hd => rfl); (case hg => rfl); (case hr => first | (go_simp; done) | (go_simp; rfl)); intro gb121 hg w22 hbox hb; have n0_ := Aside0.mk (Kd.R_below (by (with_reducible repeat (first | apply Kd.R_alloc | apply Kd.R_drewN | apply Kd.R_drew)); exact HO_120006.out) hb); have n1_ := Aside0.mk (blk_below (g := gb116) (o := .cells #[.string a0_0, .int .i64 a0_1] 23 (0, 0)) (by (with_reducible repeat (first | refine blk_drewN ?_ _ | refine blk_drew ?_ | refine blk_alloc ?_ _)); exact BK116.out) hb); have n2_ := Aside0.mk (blk_below (g := gb117) (o := .cells #[.string a1_0, .int .i64 a1_1] 23 (0, 0)) (by (with_reducible repeat (first | refine blk_drewN ?_ _ | refine blk_drew ?_ | refine blk_alloc ?_ _)); exact BK117.out) hb); have n3_ := Aside0.mk (blk_below (g := gb118) (o := .cells #[.string (⟨#[]⟩ : ByteArray), .int .i64 0, .string (⟨#[]⟩ : ByteArray), .int .i64 0, .bool false, .bool false, .slice none 0 0] 26 (0, 0)) (by (with_reducible repeat (first | refine blk_drewN ?_ _ | refine blk_drew ?_ | refine blk_alloc ?_ _)); exact BK118.out) hb); have n4_ := Aside0.mk (blk_below (g := gb119) (o := .cells #[.string a1_0, .int .i64 a1_1, .string a0_0, .int .i64 a0_1, .bool a2, .bool (!a2), u120006] 26 (0, 0)) (by (with_reducible repeat (first | refine blk_drewN ?_ _ | refine blk_drew ?_ | refine blk_alloc ?_ _)); exact BK119.out) hb); have n5_ := Aside0.mk (below_step (by repeat (first | (with_reducible first | exact HB.out | apply below_alloc | apply pw_below_drewN | apply below_drew1 | refine below_set ?_ GE116.out | refine below_set ?_ GE117.out | refine below_set ?_ GE118.out | refine below_set ?_ GE119.out) | exact HB.out)) hb); have n6_ := Aside0.mk (hbox); have n7_ := Aside0.mk ((by rw [hg]; exact (below_size (by repeat (first | (with_reducible first | exact HB.out | apply below_alloc | apply pw_below_drewN | apply below_drew1 | refine below_set ?_ GE116.out | refine below_set ?_ GE117.out | refine below_set ?_ GE118.out | refine below_set ?_ GE119.out) | exact HB.out))) : w.heap.size ≤ gb121)); have n8_ := Aside0.mk ((by rw [hg]; exact (below_size (by repeat (first | (with_reducible first | exact HB.out | apply below_alloc | apply pw_below_drewN | apply below_drew1 | refine below_set ?_ GE116.out | refine below_set ?_ GE117.out | refine below_set ?_ GE118.out | refine below_set ?_ GE119.out) | exact HB.out))) : w.heap.size ≤ gb121)); have n9_ := Aside0.mk ((by rw [hg]; exact Nat.ne_of_lt (blk_lt (g := gb116) (o := .cells #[.string a0_0, .int .i64 a0_1] 23 (0, 0)) (by (with_reducible repeat (first | refine blk_drewN ?_ _ | refine blk_drew ?_ | refine blk_alloc ?_ _)); exact BK116.out)) : gb116 ≠ gb121)); have n10_ := Aside0.mk ((by rw [hg]; exact Nat.ne_of_gt (blk_lt (g := gb116) (o := .cells #[.string a0_0, .int .i64 a0_1] 23 (0, 0)) (by (with_reducible repeat (first | refine blk_drewN ?_ _ | refine blk_drew ?_ | refine blk_alloc ?_ _)); exact BK116.out)) : gb121 ≠ gb116)); have n11_ := Aside0.mk ((by rw [hg]; exact Nat.ne_of_lt (blk_lt (g := gb117) (o := .cells #[.string a1_0, .int .i64 a1_1] 23 (0, 0)) (by (with_reducible repeat (first | refine blk_drewN ?_ _ | refine blk_drew ?_ | refine blk_alloc ?_ _)); exact BK117.out)) : gb117 ≠ gb121)); have n12_ := Aside0.mk ((by rw [hg]; exact Nat.ne_of_gt (blk_lt (g := gb117) (o := .cells #[.string a1_0, .int .i64 a1_1] 23 (0, 0)) (by (with_reducible repeat (first | refine blk_drewN ?_ _ | refine blk_drew ?_ | refine blk_alloc ?_ _)); exact BK117.out)) : gb121 ≠ gb117)); have n13_ := Aside0.mk ((by rw [hg]; exact Nat.ne_of_lt (blk_lt (g := gb118) (o := .cells #[.string (⟨#[]⟩ : ByteArray), .int .i64 0, .string (⟨#[]⟩ : ByteArray), .int .i64 0, .bool false, .bool false, .slice none 0 0] 26 (0, 0)) (by (with_reducible repeat (first | refine blk_drewN ?_ _ | refine blk_drew ?_ | refine blk_alloc ?_ _)); exact BK118.out)) : gb118 ≠ gb121)); have n14_ := Aside0.mk ((by rw [hg]; exact Nat.ne_of_gt (blk_lt (g := gb118) (o := .cells #[.string (⟨#[]⟩ : ByteArray), .int .i64 0, .string (⟨#[]⟩ : ByteArray), .int .i64 0, .bool false, .bool false, .slice none 0 0] 26 (0, 0)) (by (with_reducible repeat (first | refine blk_drewN ?_ _ | refine blk_drew ?_ | refine blk_alloc ?_ _)); exact BK118.out)) : gb121 ≠ gb118)); have n15_ := Aside0.mk ((by rw [hg]; exact Nat.ne_of_lt (blk_lt (g := gb119) (o := .cells #[.string a1_0, .int .i64 a1_1, .string a0_0, .int .i64 a0_1, .bool a2, .bool (!a2), u120006] 26 (0, 0)) (by (with_reducible repeat (first | refine blk_drewN ?_ _ | refine blk_drew ?_ | refine blk_alloc ?_ _)); exact BK119.out)) : gb119 ≠ gb121)); have n16_ := Aside0.mk ((by rw [hg]; exact Nat.ne_of_gt (blk_lt (g := gb119) (o := .cells #[.string a1_0, .int .i64 a1_1, .string a0_0, .int .i64 a0_1, .bool a2, .bool (!a2), u120006] 26 (0, 0)) (by (with_reducible repeat (first | refine blk_drewN ?_ _ | refine blk_drew ?_ | refine blk_alloc ?_ _)); exact BK119.out)) : gb121 ≠ gb119)); clear HO_120006; clear BK116; clear BK117; clear BK118; clear BK119; clear HB; have HO_120006 := n0_; have BK116 := n1_; have BK117 := n2_; have BK118 := n3_; have BK119 := n4_; have HB := n5_; have BK121 := n6_; have GW121 := n7_; have GE121 := n8_; have NB116_121 := n9_; have NB121_116 := n10_; have NB117_121 := n11_; have NB121_117 := n12_; have NB118_121 := n13_; have NB121_118 := n14_; have NB119_121 := n15_; have NB121_119 := n16_; clear n0_ n1_ n2_ n3_ n4_ n5_ n6_ n7_ n8_ n9_ n10_ n11_ n12_ n13_ n14_ n15_ n16_; clear hb hbox hg; have hnb23 := NB121_116.out; have hnc23 := NB116_121.out; have hnb24 := NB121_117.out; have hnc24 := NB117_121.out; have hnb25 := NB121_118.out; have hnc25 := NB118_121.out; have hnb26 := NB121_119.out; have hnc26 := NB119_121.out; have hcz27_0 : w22.cell? ⟨gb121, 0, none⟩ = some (.string (⟨#[]⟩ : ByteArray)) := (blk_cell BK121.out 0).trans rfl; have hcz27_1 : w22.cell? ⟨gb121, 1, none⟩ = some (.int .i64 0) := (blk_cell BK121.out 1).trans rfl; have hfz27_0 := blk_frozen BK121.out 0; have hfz27_1 := blk_frozen BK121.out 1; have hnb28 := NB119_116.out; have hnc28 := NB116_119.out; have hnb29 := NB119_117.out; have hnc29 := NB117_119.out; have hnb30 := NB119_118.out; have hnc30 := NB118_119.out; have hcz31_0 : w22.cell? ⟨gb119, 0, none⟩ = some (.string a1_0) := (blk_cell BK119.out 0).trans rfl; have hcz31_1 : w22.cell? ⟨gb119, 1, none⟩ = some (.int .i64 a1_1) := (blk_cell BK119.out 1).trans rfl; have hcz31_2 : w22.cell? ⟨gb119, 2, none⟩ = some (.string a0_0) := (blk_cell BK119.out 2).trans rfl; have hcz31_3 : w22.cell? ⟨gb119, 3, none⟩ = some (.int .i64 a0_1) := (blk_cell BK119.out 3).trans rfl; have hcz31_4 : w22.cell? ⟨gb119, 4, none⟩ = some (.bool a2) := (blk_cell BK119.out 4).trans rfl; have hcz31_5 : w22.cell? ⟨gb119, 5, none⟩ = some (.bool (!a2)) := (blk_cell BK119.out 5).trans rfl; have hcz31_6 : w22.cell? ⟨gb119, 6, none⟩ = some (u120006) := (blk_cell BK119.out 6).trans rfl; have hfz31_0 := blk_frozen BK119.out 0; have hfz31_1 := blk_frozen BK119.out 1; have hfz31_2 := blk_frozen BK119.out 2; have hfz31_3 := blk_frozen BK119.out 3; have hfz31_4 := blk_frozen BK119.out 4; have hfz31_5 := blk_frozen BK119.out 5; have hfz31_6 := blk_frozen BK119.out 6) | ((with_reducible refine gate_builtin (b := .append) (xs := #[.tmp 26, .tmp 29]) rfl ?_); at_builtin; refine Kd.R_append k93 (w0 := w) w.heap.size rfl (.tmp 26) (.tmp 29) 24 93 (.agg #[(.string ⟨#[]⟩), (.int .i64 0), (.bool false)]) 32 rfl Tryd.underlying24 info93 rfl (by decide) (by omega) u120006 x120006_1 (⟨(⟨(rd_T23 l3 x21_1).f0, (rd_T23 l3 x21_1).f1⟩ : S23), false⟩ : S93) [.string ((rd_T23 l3 x21_1).f0), .int .i64 ((rd_T23 l3 x21_1).f1), .bool false] (fun _ => True) (fun _ => False) rfl (by first | (go_simp; done) | (go_simp; rfl)) ?aP (fun _ hk => hk.elim) ?aF ?aO ?aB ?aS ?aL ?_; (case aP => exact k93_mkM _ _ _ (⟨(⟨(rd_T23 l3 x21_1).f0, (rd_T23 l3 x21_1).f1⟩ : S23), false⟩ : S93)); (case aB => exact (by repeat (first | (with_reducible first | exact HB.out | apply below_alloc | apply pw_below_drewN | apply below_drew1 | refine below_set ?_ GE116.out | refine below_set ?_ GE117.out | refine below_set ?_ GE118.out | refine below_set ?_ GE119.out | refine below_set ?_ GE121.out) | exact HB.out))); (case aF => exact (fun _ _ => trivial)); (case aO => exact (by (with_reducible repeat (first | apply Kd.R_alloc | apply Kd.R_drewN | apply Kd.R_drew)); exact Kd.R_mono (Kd.R_far (p := ⟨gb121, 1, none⟩) (Kd.R_far (p := ⟨gb121, 0, none⟩) (Kd.R_types HO_120006.out BK121.out (by decide)) (fun _ hk => hk.2) (.string ((rd_T23 l3 x21_1).f0))) (fun _ hk => hk.2) (.int .i64 ((rd_T23 l3 x21_1).f1))) (fun _ hk => trivial))); (case aS => exact (below_size (by repeat (first | (with_reducible first | exact HB.out | apply below_alloc | apply pw_below_drewN | apply below_drew1 | refine below_set ?_ GE116.out | refine below_set ?_ GE117.out | refine below_set ?_ GE118.out | refine below_set ?_ GE119.out | refine below_set ?_ GE121.out) | exact HB.out)))); (case aL => have := LMc21.out; omega); intro v123 w32 ho hb hg hat; rw [← Ny122.out] at ho; have n0_ := Aside0.mk (blk_grown (g := gb116) (o := .cells #[.string a0_0, .int .i64 a0_1] 23 (0, 0)) (by (with_reducible repeat (first | refine blk_drewN ?_ _ | refine blk_drew ?_ | refine blk_alloc ?_ _)); refine blk_far ?_ NB116_121.out _; (with_reducible repeat (first | refine blk_drewN ?_ _ | refine blk_drew ?_ | refine blk_alloc ?_ _)); refine blk_far ?_ NB116_121.out _; (with_reducible repeat (first | refine blk_drewN ?_ _ | refine blk_drew ?_ | refine blk_alloc ?_ _)); exact BK116.out) hg (Kd.R_ne HO_120006.out BK116.out (by decide))); have n1_ := Aside0.mk (blk_grown (g := gb117) (o := .cells #[.string a1_0, .int .i64 a1_1] 23 (0, 0)) (by (with_reducible repeat (first | refine blk_drewN ?_ _ | refine blk_drew ?_ | refine blk_alloc ?_ _)); refine blk_far ?_ NB117_121.out _; (with_reducible repeat (first | refine blk_drewN ?_ _ | refine blk_drew ?_ | refine blk_alloc ?_ _)); refine blk_far ?_ NB117_121.out _; (with_reducible repeat (first | refine blk_drewN ?_ _ | refine blk_drew ?_ | refine blk_alloc ?_ _)); exact BK117.out) hg (Kd.R_ne HO_120006.out BK117.out (by decide))); have n2_ := Aside0.mk (blk_grown (g := gb118) (o := .cells #[.string (⟨#[]⟩ : ByteArray), .int .i64 0, .string (⟨#[]⟩ : ByteArray), .int .i64 0, .bool false, .bool false, .slice none 0 0] 26 (0, 0)) (by (with_reducible repeat (first | refine blk_drewN ?_ _ | refine blk_drew ?_ | refine blk_alloc ?_ _)); refine blk_far ?_ NB118_121.out _; (with_reducible repeat (first | refine blk_drewN ?_ _ | refine blk_drew ?_ | refine blk_alloc ?_ _)); refine blk_far ?_ NB118_121.out _; (with_reducible repeat (first | refine blk_drewN ?_ _ | refine blk_drew ?_ | refine blk_alloc ?_ _)); exact BK118.out) hg (Kd.R_ne HO_120006.out BK118.out (by decide))); have n3_ := Aside0.mk (blk_grown (g := gb119) (o := .cells #[.string a1_0, .int .i64 a1_1, .string a0_0, .int .i64 a0_1, .bool a2, .bool (!a2), u120006] 26 (0, 0)) (by (with_reducible repeat (first | refine blk_drewN ?_ _ | refine blk_drew ?_ | refine blk_alloc ?_ _)); refine blk_far ?_ NB119_121.out _; (with_reducible repeat (first | refine blk_drewN ?_ _ | refine blk_drew ?_ | refine blk_alloc ?_ _)); refine blk_far ?_ NB119_121.out _; (with_reducible repeat (first | refine blk_drewN ?_ _ | refine blk_drew ?_ | refine blk_alloc ?_ _)); exact BK119.out) hg (Kd.R_ne HO_120006.out BK119.out (by decide))); have n4_ := Aside0.mk (blk_grown (g := gb121) (o := .cells #[.string ((rd_T23 l3 x21_1).f0), .int .i64 ((rd_T23 l3 x21_1).f1)] 23 (0, 0)) (by (with_reducible repeat (first | refine blk_drewN ?_ _ | refine blk_drew ?_ | refine blk_alloc ?_ _)); refine blk_put (cs := #[.string ((rd_T23 l3 x21_1).f0), .int .i64 0]) ?_ 1 _ rfl; (with_reducible repeat (first | refine blk_drewN ?_ _ | refine blk_drew ?_ | refine blk_alloc ?_ _)); refine blk_put (cs := #[.string (⟨#[]⟩ : ByteArray), .int .i64 0]) ?_ 0 _ rfl; (with_reducible repeat (first | refine blk_drewN ?_ _ | refine blk_drew ?_ | refine blk_alloc ?_ _)); exact BK121.out) hg (Kd.R_ne HO_120006.out BK121.out (by decide))); have n5_ := Aside0.mk (hb); have n6_ := Aside0.mk (ho); clear BK116; clear BK117; clear BK118; clear BK119; clear BK121; clear HB; clear HO_120006; have BK116 := n0_; have BK117 := n1_; have BK118 := n2_; have BK119 := n3_; have BK121 := n4_; have HB := n5_; have HO124 := n6_; clear n0_ n1_ n2_ n3_ n4_ n5_ n6_; clear ho hb hg hat; obtain ⟨Ao33, co33, eo33⟩ := Kd.R_slice HO124.out; subst eo33; have hcz34_0 : w32.cell? ⟨gb119, 0, none⟩ = some (.string a1_0) := (blk_cell BK119.out 0).trans rfl; have hcz34_1 : w32.cell? ⟨gb119, 1, none⟩ = some (.int .i64 a1_1) := (blk_cell BK119.out 1).trans rfl; have hcz34_2 : w32.cell? ⟨gb119, 2, none⟩ = some (.string a0_0) := (blk_cell BK119.out 2).trans rfl; have hcz34_3 : w32.cell? ⟨gb119, 3, none⟩ = some (.int .i64 a0_1) := (blk_cell BK119.out 3).trans rfl; have hcz34_4 : w32.cell? ⟨gb119, 4, none⟩ = some (.bool a2) := (blk_cell BK119.out 4).trans rfl; have hcz34_5 : w32.cell? ⟨gb119, 5, none⟩ = some (.bool (!a2)) := (blk_cell BK119.out 5).trans rfl; have hcz34_6 : w32.cell? ⟨gb119, 6, none⟩ = some (u120006) := (blk_cell BK119.out 6).trans rfl; have hfz34_0 := blk_frozen BK119.out 0; have hfz34_1 := blk_frozen BK119.out 1; have hfz34_2 := blk_frozen BK119.out 2; have hfz34_3 := blk_frozen BK119.out 3; have hfz34_4 := blk_frozen BK119.out 4; have hfz34_5 := blk_frozen BK119.out 5; have hfz34_6 := blk_frozen BK119.out 6))
       go_roundg k1
       case measure => have := HK1.out; omega
       case rel => exact ⟨(wrap64 (x21_1 + 1)), (y122), (.slice Ao33 y122.length co33), (by first | rfl | (simp; done) | (simp [*]; done) | (simp; exact (fun l : List UInt8 => (by cases l <;> rfl : l.isEmpty = !(l != []))) _)), H', ⟨by have := HK1.out; omega⟩, ⟨by (with_reducible repeat (first | apply Kd.R_alloc | apply Kd.R_drewN | apply Kd.R_drew)); exact Kd.R_mono (Kd.R_far (p := ⟨gb119, 6, none⟩) (Kd.R_types HO124.out BK119.out (by decide)) (fun _ hk => hk.2) (.slice Ao33 y122.length co33)) (fun _ hk => trivial)⟩, ⟨by (with_reducible repeat (first | refine blk_drewN ?_ _ | refine blk_drew ?_ | refine blk_alloc ?_ _)); refine blk_far ?_ NB116_119.out _; (with_reducible repeat (first | refine blk_drewN ?_ _ | refine blk_drew ?_ | refine blk_alloc ?_ _)); exact BK116.out⟩, ⟨by (with_reducible repeat (first | refine blk_drewN ?_ _ | refine blk_drew ?_ | refine blk_alloc ?_ _)); refine blk_far ?_ NB117_119.out _; (with_reducible repeat (first | refine blk_drewN ?_ _ | refine blk_drew ?_ | refine blk_alloc ?_ _)); exact BK117.out⟩, ⟨by (with_reducible repeat (first | refine blk_drewN ?_ _ | refine blk_drew ?_ | refine blk_alloc ?_ _)); refine blk_far ?_ NB118_119.out _; (with_reducible repeat (first | refine blk_drewN ?_ _ | refine blk_drew ?_ | refine blk_alloc ?_ _)); exact BK118.out⟩, ⟨by (with_reducible repeat (first | refine blk_drewN ?_ _ | refine blk_drew ?_ | refine blk_alloc ?_ _)); refine blk_put (cs := #[.string a1_0, .int .i64 a1_1, .string a0_0, .int .i64 a0_1, .bool a2, .bool (!a2), u120006]) ?_ 6 _ rfl; (with_reducible repeat (first | refine blk_drewN ?_ _ | refine blk_drew ?_ | refine blk_alloc ?_ _)); exact BK119.out⟩, ⟨by repeat (first | (with_reducible first | exact HB.out | apply below_alloc | apply pw_below_drewN | apply below_drew1 | refine below_set ?_ GE116.out | refine below_set ?_ GE117.out | refine below_set ?_ GE118.out | refine below_set ?_ GE119.out | refine below_set ?_ GE121.out) | exact HB.out)⟩⟩
      ·rw [if_neg c21] at H
       exact absurd H (by simp)
     ·rw [if_neg c20] at H
      exact absurd H (by simp)
    ·rw [if_neg c19] at H
     exact absurd H (by simp)
   ·rw [if_neg c18] at H
    have c18b0 : decide (x21_1 < (l3.length : Int)) = false := decide_eq_false c18
    clear c18
    replace H := Option.bind_eq_some_iff.mp H
    obtain ⟨t125, A350, H⟩ := H
    replace H : (if t125 = true then (some (a1_0, a1_1, a0_0, a0_1, a2, (!a2), x120006_1, 0)) else (some ((⟨#[]⟩ : ByteArray), 0, (⟨#[]⟩ : ByteArray), 0, false, false, ([] : List (S93)), 11))) = some (r1, r2, r3, r4, r5, r6, r7, r8) := H
    have A35 := Aside0.mk A350
    clear A350
    by_cases c36 : t125 = true
    ·subst c36
     have H1 : (some (a1_0, a1_1, a0_0, a0_1, a2, (!a2), x120006_1, 0)) = some (r1, r2, r3, r4, r5, r6, r7, r8) := by rw [if_pos rfl] at H; exact H
     clear H
     have H := H1
     clear H1
     simp only [Option.some.injEq, Prod.mk.injEq] at H
     obtain ⟨rfl, rfl, rfl, rfl, rfl, rfl, rfl, rfl⟩ := H
     have hnb37 := NB119_116.out
     have hnc37 := NB116_119.out
     have hnb38 := NB119_117.out
     have hnc38 := NB117_119.out
     have hnb39 := NB119_118.out
     have hnc39 := NB118_119.out
     have hcz40_0 : wr.cell? ⟨gb119, 0, none⟩ = some (.string a1_0) := (blk_cell BK119.out 0).trans rfl
     have hcz40_1 : wr.cell? ⟨gb119, 1, none⟩ = some (.int .i64 a1_1) := (blk_cell BK119.out 1).trans rfl
     have hcz40_2 : wr.cell? ⟨gb119, 2, none⟩ = some (.string a0_0) := (blk_cell BK119.out 2).trans rfl
     have hcz40_3 : wr.cell? ⟨gb119, 3, none⟩ = some (.int .i64 a0_1) := (blk_cell BK119.out 3).trans rfl
     have hcz40_4 : wr.cell? ⟨gb119, 4, none⟩ = some (.bool a2) := (blk_cell BK119.out 4).trans rfl
     have hcz40_5 : wr.cell? ⟨gb119, 5, none⟩ = some (.bool (!a2)) := (blk_cell BK119.out 5).trans rfl
     have hcz40_6 : wr.cell? ⟨gb119, 6, none⟩ = some (u120006) := (blk_cell BK119.out 6).trans rfl
     have hfz40_0 := blk_frozen BK119.out 0
     have hfz40_1 := blk_frozen BK119.out 1
     have hfz40_2 := blk_frozen BK119.out 2
     have hfz40_3 := blk_frozen BK119.out 3
     have hfz40_4 := blk_frozen BK119.out 4
     have hfz40_5 := blk_frozen BK119.out 5
     have hfz40_6 := blk_frozen BK119.out 6
     obtain ⟨Ao41, co41, eo41⟩ := Kd.R_slice HO_120006.out
     subst eo41
     go_wp2_with (first | ((with_reducible refine gate_callee (f := 28) rfl ?_); refine goesL_ (some 34) rfl rfl Tryd.func28 (by kernel_rfl) rfl #[.agg #[.string a1_0, .int .i64 a1_1, .string a0_0, .int .i64 a0_1, .bool a2, .bool (!a2), .slice Ao41 x120006_1.length co41]] rfl (by (try simp only [List.map_toArray, List.map_cons, List.map_nil]); first | done | rfl | (simp only [List.length_drop, List.length_take]; rfl)) ?_; (with_reducible refine (path_Right.calls a1_0 a1_1 a0_0 a0_1 a2 (!a2) _ _ x120006_1 true _ ?side1 ?side2 A35.out).mono ?_); (case side1 => repeat (first | exact (Kd.R_reads' HO_120006.out).2.2 | (with_reducible refine Kd.C_alloc ?_ _) | (with_reducible refine Kd.C_drewN ?_ _) | (with_reducible refine Kd.C_drew ?_))); (case side2 => exact (Kd.R_reads' HO_120006.out).2.1); rintro e w42 ⟨rfl, hb⟩; refine ⟨_, rfl, ?_⟩; have n0_ := Aside0.mk (Kd.R_below (by (with_reducible repeat (first | apply Kd.R_alloc | apply Kd.R_drewN | apply Kd.R_drew)); exact HO_120006.out) hb); have n1_ := Aside0.mk (blk_below (g := gb116) (o := .cells #[.string a0_0, .int .i64 a0_1] 23 (0, 0)) (by (with_reducible repeat (first | refine blk_drewN ?_ _ | refine blk_drew ?_ | refine blk_alloc ?_ _)); exact BK116.out) hb); have n2_ := Aside0.mk (blk_below (g := gb117) (o := .cells #[.string a1_0, .int .i64 a1_1] 23 (0, 0)) (by (with_reducible repeat (first | refine blk_drewN ?_ _ | refine blk_drew ?_ | refine blk_alloc ?_ _)); exact BK117.out) hb); have n3_ := Aside0.mk (blk_below (g := gb118) (o := .cells #[.string (⟨#[]⟩ : ByteArray), .int .i64 0, .string (⟨#[]⟩ : ByteArray), .int .i64 0, .bool false, .bool false, .slice none 0 0] 26 (0, 0)) (by (with_reducible repeat (first | refine blk_drewN ?_ _ | refine blk_drew ?_ | refine blk_alloc ?_ _)); exact BK118.out) hb); have n4_ := Aside0.mk (blk_below (g := gb119) (o := .cells #[.string a1_0, .int .i64 a1_1, .string a0_0, .int .i64 a0_1, .bool a2, .bool (!a2), .slice Ao41 x120006_1.length co41] 26 (0, 0)) (by (with_reducible repeat (first | refine blk_drewN ?_ _ | refine blk_drew ?_ | refine blk_alloc ?_ _)); exact BK119.out) hb); have n5_ := Aside0.mk (below_step (by repeat (first | (with_reducible first | exact HB.out | apply below_alloc | apply pw_below_drewN | apply below_drew1 | refine below_set ?_ GE116.out | refine below_set ?_ GE117.out | refine below_set ?_ GE118.out | refine below_set ?_ GE119.out) | exact HB.out)) hb); clear HO_120006; clear BK116; clear BK117; clear BK118; clear BK119; clear HB; have HO_120006 := n0_; have BK116 := n1_; have BK117 := n2_; have BK118 := n3_; have BK119 := n4_; have HB := n5_; clear n0_ n1_ n2_ n3_ n4_ n5_; (try clear hb); (try clear hb2); (try clear hk); (try clear hi); have hcz43_0 : w42.cell? ⟨gb119, 0, none⟩ = some (.string a1_0) := (blk_cell BK119.out 0).trans rfl; have hcz43_1 : w42.cell? ⟨gb119, 1, none⟩ = some (.int .i64 a1_1) := (blk_cell BK119.out 1).trans rfl; have hcz43_2 : w42.cell? ⟨gb119, 2, none⟩ = some (.string a0_0) := (blk_cell BK119.out 2).trans rfl; have hcz43_3 : w42.cell? ⟨gb119, 3, none⟩ = some (.int .i64 a0_1) := (blk_cell BK119.out 3).trans rfl; have hcz43_4 : w42.cell? ⟨gb119, 4, none⟩ = some (.bool a2) := (blk_cell BK119.out 4).trans rfl; have hcz43_5 : w42.cell? ⟨gb119, 5, none⟩ = some (.bool (!a2)) := (blk_cell BK119.out 5).trans rfl; have hcz43_6 : w42.cell? ⟨gb119, 6, none⟩ = some (.slice Ao41 x120006_1.length co41) := (blk_cell BK119.out 6).trans rfl; have hfz43_0 := blk_frozen BK119.out 0; have hfz43_1 := blk_frozen BK119.out 1; have hfz43_2 := blk_frozen BK119.out 2; have hfz43_3 := blk_frozen BK119.out 3; have hfz43_4 := blk_frozen BK119.out 4; have hfz43_5 := blk_frozen BK119.out 5; have hfz43_6 := blk_frozen BK119.out 6; have hnb44 := NB118_116.out; have hnc44 := NB116_118.out; have hnb45 := NB118_117.out; have hnc45 := NB117_118.out; have hcz46_0 : w42.cell? ⟨gb118, 0, none⟩ = some (.string (⟨#[]⟩ : ByteArray)) := (blk_cell BK118.out 0).trans rfl; have hcz46_1 : w42.cell? ⟨gb118, 1, none⟩ = some (.int .i64 0) := (blk_cell BK118.out 1).trans rfl; have hcz46_2 : w42.cell? ⟨gb118, 2, none⟩ = some (.string (⟨#[]⟩ : ByteArray)) := (blk_cell BK118.out 2).trans rfl; have hcz46_3 : w42.cell? ⟨gb118, 3, none⟩ = some (.int .i64 0) := (blk_cell BK118.out 3).trans rfl; have hcz46_4 : w42.cell? ⟨gb118, 4, none⟩ = some (.bool false) := (blk_cell BK118.out 4).trans rfl; have hcz46_5 : w42.cell? ⟨gb118, 5, none⟩ = some (.bool false) := (blk_cell BK118.out 5).trans rfl; have hcz46_6 : w42.cell? ⟨gb118, 6, none⟩ = some (.slice none 0 0) := (blk_cell BK118.out 6).trans rfl; have hfz46_0 := blk_frozen BK118.out 0; have hfz46_1 := blk_frozen BK118.out 1; have hfz46_2 := blk_frozen BK118.out 2; have hfz46_3 := blk_frozen BK118.out 3; have hfz46_4 := blk_frozen BK118.out 4; have hfz46_5 := blk_frozen BK118.out 5; have hfz46_6 := blk_frozen BK118.out 6))
     refine bodyPost_ret (results_ct rfl _ _ gb118 26 #[.string a1_0, .int .i64 a1_1, .string a0_0, .int .i64 a0_1, .bool a2, .bool (!a2), .slice Ao41 x120006_1.length co41] (0, 0) _ rfl (by (with_reducible repeat (first | refine blk_drewN ?_ _ | refine blk_drew ?_ | refine blk_alloc ?_ _)); refine blk_put (cs := #[.string a1_0, .int .i64 a1_1, .string a0_0, .int .i64 a0_1, .bool a2, .bool (!a2), .slice none 0 0]) ?_ 6 _ rfl; (with_reducible repeat (first | refine blk_drewN ?_ _ | refine blk_drew ?_ | refine blk_alloc ?_ _)); refine blk_put (cs := #[.string a1_0, .int .i64 a1_1, .string a0_0, .int .i64 a0_1, .bool a2, .bool false, .slice none 0 0]) ?_ 5 _ rfl; (with_reducible repeat (first | refine blk_drewN ?_ _ | refine blk_drew ?_ | refine blk_alloc ?_ _)); refine blk_put (cs := #[.string a1_0, .int .i64 a1_1, .string a0_0, .int .i64 a0_1, .bool false, .bool false, .slice none 0 0]) ?_ 4 _ rfl; (with_reducible repeat (first | refine blk_drewN ?_ _ | refine blk_drew ?_ | refine blk_alloc ?_ _)); refine blk_put (cs := #[.string a1_0, .int .i64 a1_1, .string a0_0, .int .i64 0, .bool false, .bool false, .slice none 0 0]) ?_ 3 _ rfl; (with_reducible repeat (first | refine blk_drewN ?_ _ | refine blk_drew ?_ | refine blk_alloc ?_ _)); refine blk_put (cs := #[.string a1_0, .int .i64 a1_1, .string (⟨#[]⟩ : ByteArray), .int .i64 0, .bool false, .bool false, .slice none 0 0]) ?_ 2 _ rfl; (with_reducible repeat (first | refine blk_drewN ?_ _ | refine blk_drew ?_ | refine blk_alloc ?_ _)); refine blk_put (cs := #[.string a1_0, .int .i64 0, .string (⟨#[]⟩ : ByteArray), .int .i64 0, .bool false, .bool false, .slice none 0 0]) ?_ 1 _ rfl; (with_reducible repeat (first | refine blk_drewN ?_ _ | refine blk_drew ?_ | refine blk_alloc ?_ _)); refine blk_put (cs := #[.string (⟨#[]⟩ : ByteArray), .int .i64 0, .string (⟨#[]⟩ : ByteArray), .int .i64 0, .bool false, .bool false, .slice none 0 0]) ?_ 0 _ rfl; (with_reducible repeat (first | refine blk_drewN ?_ _ | refine blk_drew ?_ | refine blk_alloc ?_ _)); exact BK118.out) Tryd.underlying26 rfl (by kernel_rfl)) rfl ?_
     exact ⟨_, by first | rfl | (simp [errW_none, errW_some] <;> rfl) | (simp [*, errW_none, errW_some] <;> rfl), by (with_reducible repeat (first | apply Kd.R_alloc | apply Kd.R_drewN | apply Kd.R_drew)); exact Kd.R_mono (Kd.R_far (p := ⟨gb118, 6, none⟩) (Kd.R_far (p := ⟨gb118, 5, none⟩) (Kd.R_far (p := ⟨gb118, 4, none⟩) (Kd.R_far (p := ⟨gb118, 3, none⟩) (Kd.R_far (p := ⟨gb118, 2, none⟩) (Kd.R_far (p := ⟨gb118, 1, none⟩) (Kd.R_far (p := ⟨gb118, 0, none⟩) (Kd.R_types HO_120006.out BK118.out (by decide)) (fun _ hk => hk.2) (.string a1_0)) (fun _ hk => hk.2) (.int .i64 a1_1)) (fun _ hk => hk.2) (.string a0_0)) (fun _ hk => hk.2) (.int .i64 a0_1)) (fun _ hk => hk.2) (.bool a2)) (fun _ hk => hk.2) (.bool (!a2))) (fun _ hk => hk.2) (.slice Ao41 x120006_1.length co41)) (fun _ hk => trivial), by repeat (first | (with_reducible first | exact HB.out | apply below_alloc | apply pw_below_drewN | apply below_drew1 | refine below_set ?_ GE116.out | refine below_set ?_ GE117.out | refine below_set ?_ GE118.out | refine below_set ?_ GE119.out) | exact HB.out)⟩
    ·replace c36 := Bool.eq_false_iff.mpr c36
     subst c36
     have H1 : (some ((⟨#[]⟩ : ByteArray), 0, (⟨#[]⟩ : ByteArray), 0, false, false, ([] : List (S93)), 11)) = some (r1, r2, r3, r4, r5, r6, r7, r8) := by rw [if_neg (show ¬ (false = true) by decide)] at H; exact H
     clear H
     have H := H1
     clear H1
     simp only [Option.some.injEq, Prod.mk.injEq] at H
     obtain ⟨rfl, rfl, rfl, rfl, rfl, rfl, rfl, rfl⟩ := H
     have hnb47 := NB119_116.out
     have hnc47 := NB116_119.out
     have hnb48 := NB119_117.out
     have hnc48 := NB117_119.out
     have hnb49 := NB119_118.out
     have hnc49 := NB118_119.out
     have hcz50_0 : wr.cell? ⟨gb119, 0, none⟩ = some (.string a1_0) := (blk_cell BK119.out 0).trans rfl
     have hcz50_1 : wr.cell? ⟨gb119, 1, none⟩ = some (.int .i64 a1_1) := (blk_cell BK119.out 1).trans rfl
     have hcz50_2 : wr.cell? ⟨gb119, 2, none⟩ = some (.string a0_0) := (blk_cell BK119.out 2).trans rfl
     have hcz50_3 : wr.cell? ⟨gb119, 3, none⟩ = some (.int .i64 a0_1) := (blk_cell BK119.out 3).trans rfl
     have hcz50_4 : wr.cell? ⟨gb119, 4, none⟩ = some (.bool a2) := (blk_cell BK119.out 4).trans rfl
     have hcz50_5 : wr.cell? ⟨gb119, 5, none⟩ = some (.bool (!a2)) := (blk_cell BK119.out 5).trans rfl
     have hcz50_6 : wr.cell? ⟨gb119, 6, none⟩ = some (u120006) := (blk_cell BK119.out 6).trans rfl
     have hfz50_0 := blk_frozen BK119.out 0
     have hfz50_1 := blk_frozen BK119.out 1
     have hfz50_2 := blk_frozen BK119.out 2
     have hfz50_3 := blk_frozen BK119.out 3
     have hfz50_4 := blk_frozen BK119.out 4
     have hfz50_5 := blk_frozen BK119.out 5
     have hfz50_6 := blk_frozen BK119.out 6
     obtain ⟨Ao51, co51, eo51⟩ := Kd.R_slice HO_120006.out
     subst eo51
     go_wp2_with (first | ((with_reducible refine gate_callee (f := 28) rfl ?_); refine goesL_ (some 34) rfl rfl Tryd.func28 (by kernel_rfl) rfl #[.agg #[.string a1_0, .int .i64 a1_1, .string a0_0, .int .i64 a0_1, .bool a2, .bool (!a2), .slice Ao51 x120006_1.length co51]] rfl (by (try simp only [List.map_toArray, List.map_cons, List.map_nil]); first | done | rfl | (simp only [List.length_drop, List.length_take]; rfl)) ?_; (with_reducible refine (path_Right.calls a1_0 a1_1 a0_0 a0_1 a2 (!a2) _ _ x120006_1 false _ ?side1 ?side2 A35.out).mono ?_); (case side1 => repeat (first | exact (Kd.R_reads' HO_120006.out).2.2 | (with_reducible refine Kd.C_alloc ?_ _) | (with_reducible refine Kd.C_drewN ?_ _) | (with_reducible refine Kd.C_drew ?_))); (case side2 => exact (Kd.R_reads' HO_120006.out).2.1); rintro e w52 ⟨rfl, hb⟩; refine ⟨_, rfl, ?_⟩; have n0_ := Aside0.mk (Kd.R_below (by (with_reducible repeat (first | apply Kd.R_alloc | apply Kd.R_drewN | apply Kd.R_drew)); exact HO_120006.out) hb); have n1_ := Aside0.mk (blk_below (g := gb116) (o := .cells #[.string a0_0, .int .i64 a0_1] 23 (0, 0)) (by (with_reducible repeat (first | refine blk_drewN ?_ _ | refine blk_drew ?_ | refine blk_alloc ?_ _)); exact BK116.out) hb); have n2_ := Aside0.mk (blk_below (g := gb117) (o := .cells #[.string a1_0, .int .i64 a1_1] 23 (0, 0)) (by (with_reducible repeat (first | refine blk_drewN ?_ _ | refine blk_drew ?_ | refine blk_alloc ?_ _)); exact BK117.out) hb); have n3_ := Aside0.mk (blk_below (g := gb118) (o := .cells #[.string (⟨#[]⟩ : ByteArray), .int .i64 0, .string (⟨#[]⟩ : ByteArray), .int .i64 0, .bool false, .bool false, .slice none 0 0] 26 (0, 0)) (by (with_reducible repeat (first | refine blk_drewN ?_ _ | refine blk_drew ?_ | refine blk_alloc ?_ _)); exact BK118.out) hb); have n4_ := Aside0.mk (blk_below (g := gb119) (o := .cells #[.string a1_0, .int .i64 a1_1, .string a0_0, .int .i64 a0_1, .bool a2, .bool (!a2), .slice Ao51 x120006_1.length co51] 26 (0, 0)) (by (with_reducible repeat (first | refine blk_drewN ?_ _ | refine blk_drew ?_ | refine blk_alloc ?_ _)); exact BK119.out) hb); have n5_ := Aside0.mk (below_step (by repeat (first | (with_reducible first | exact HB.out | apply below_alloc | apply pw_below_drewN | apply below_drew1 | refine below_set ?_ GE116.out | refine below_set ?_ GE117.out | refine below_set ?_ GE118.out | refine below_set ?_ GE119.out) | exact HB.out)) hb); clear HO_120006; clear BK116; clear BK117; clear BK118; clear BK119; clear HB; have HO_120006 := n0_; have BK116 := n1_; have BK117 := n2_; have BK118 := n3_; have BK119 := n4_; have HB := n5_; clear n0_ n1_ n2_ n3_ n4_ n5_; (try clear hb); (try clear hb2); (try clear hk); (try clear hi); have hnb53 := NB118_116.out; have hnc53 := NB116_118.out; have hnb54 := NB118_117.out; have hnc54 := NB117_118.out; have hcz55_0 : w52.cell? ⟨gb118, 0, none⟩ = some (.string (⟨#[]⟩ : ByteArray)) := (blk_cell BK118.out 0).trans rfl; have hcz55_1 : w52.cell? ⟨gb118, 1, none⟩ = some (.int .i64 0) := (blk_cell BK118.out 1).trans rfl; have hcz55_2 : w52.cell? ⟨gb118, 2, none⟩ = some (.string (⟨#[]⟩ : ByteArray)) := (blk_cell BK118.out 2).trans rfl; have hcz55_3 : w52.cell? ⟨gb118, 3, none⟩ = some (.int .i64 0) := (blk_cell BK118.out 3).trans rfl; have hcz55_4 : w52.cell? ⟨gb118, 4, none⟩ = some (.bool false) := (blk_cell BK118.out 4).trans rfl; have hcz55_5 : w52.cell? ⟨gb118, 5, none⟩ = some (.bool false) := (blk_cell BK118.out 5).trans rfl; have hcz55_6 : w52.cell? ⟨gb118, 6, none⟩ = some (.slice none 0 0) := (blk_cell BK118.out 6).trans rfl; have hfz55_0 := blk_frozen BK118.out 0; have hfz55_1 := blk_frozen BK118.out 1; have hfz55_2 := blk_frozen BK118.out 2; have hfz55_3 := blk_frozen BK118.out 3; have hfz55_4 := blk_frozen BK118.out 4; have hfz55_5 := blk_frozen BK118.out 5; have hfz55_6 := blk_frozen BK118.out 6))
     refine bodyPost_ret (results_ct rfl _ _ gb118 26 #[.string (⟨#[]⟩ : ByteArray), .int .i64 0, .string (⟨#[]⟩ : ByteArray), .int .i64 0, .bool false, .bool false, .slice none 0 0] (0, 0) _ rfl (by (with_reducible repeat (first | refine blk_drewN ?_ _ | refine blk_drew ?_ | refine blk_alloc ?_ _)); refine blk_put (cs := #[.string (⟨#[]⟩ : ByteArray), .int .i64 0, .string (⟨#[]⟩ : ByteArray), .int .i64 0, .bool false, .bool false, .slice none 0 0]) ?_ 6 _ rfl; (with_reducible repeat (first | refine blk_drewN ?_ _ | refine blk_drew ?_ | refine blk_alloc ?_ _)); refine blk_put (cs := #[.string (⟨#[]⟩ : ByteArray), .int .i64 0, .string (⟨#[]⟩ : ByteArray), .int .i64 0, .bool false, .bool false, .slice none 0 0]) ?_ 5 _ rfl; (with_reducible repeat (first | refine blk_drewN ?_ _ | refine blk_drew ?_ | refine blk_alloc ?_ _)); refine blk_put (cs := #[.string (⟨#[]⟩ : ByteArray), .int .i64 0, .string (⟨#[]⟩ : ByteArray), .int .i64 0, .bool false, .bool false, .slice none 0 0]) ?_ 4 _ rfl; (with_reducible repeat (first | refine blk_drewN ?_ _ | refine blk_drew ?_ | refine blk_alloc ?_ _)); refine blk_put (cs := #[.string (⟨#[]⟩ : ByteArray), .int .i64 0, .string (⟨#[]⟩ : ByteArray), .int .i64 0, .bool false, .bool false, .slice none 0 0]) ?_ 3 _ rfl; (with_reducible repeat (first | refine blk_drewN ?_ _ | refine blk_drew ?_ | refine blk_alloc ?_ _)); refine blk_put (cs := #[.string (⟨#[]⟩ : ByteArray), .int .i64 0, .string (⟨#[]⟩ : ByteArray), .int .i64 0, .bool false, .bool false, .slice none 0 0]) ?_ 2 _ rfl; (with_reducible repeat (first | refine blk_drewN ?_ _ | refine blk_drew ?_ | refine blk_alloc ?_ _)); refine blk_put (cs := #[.string (⟨#[]⟩ : ByteArray), .int .i64 0, .string (⟨#[]⟩ : ByteArray), .int .i64 0, .bool false, .bool false, .slice none 0 0]) ?_ 1 _ rfl; (with_reducible repeat (first | refine blk_drewN ?_ _ | refine blk_drew ?_ | refine blk_alloc ?_ _)); refine blk_put (cs := #[.string (⟨#[]⟩ : ByteArray), .int .i64 0, .string (⟨#[]⟩ : ByteArray), .int .i64 0, .bool false, .bool false, .slice none 0 0]) ?_ 0 _ rfl; (with_reducible repeat (first | refine blk_drewN ?_ _ | refine blk_drew ?_ | refine blk_alloc ?_ _)); exact BK118.out) Tryd.underlying26 rfl (by kernel_rfl)) rfl ?_
     exact ⟨_, by first | rfl | (simp [errW_none, errW_some] <;> rfl) | (simp [*, errW_none, errW_some] <;> rfl), by first | exact Kd.R_nil _ _ _ _ _ | exact Kd.N_nil _ _ _ _ _ | exact Kd.V_nil _ _ _ _ _ | exact Kd.Q_nil _ _ _ _ _ | exact Kd.S_nil _ _ _ _ _, by repeat (first | (with_reducible first | exact HB.out | apply below_alloc | apply pw_below_drewN | apply below_drew1 | refine below_set ?_ GE116.out | refine below_set ?_ GE117.out | refine below_set ?_ GE118.out | refine below_set ?_ GE119.out) | exact HB.out)⟩

end Go.Proofs.YtpmieapgbdbabaaDoor.QAll
end

section
/- strings.Builder: copyCheck and WriteString, walked by hand at this program, over the kit's predicate of a builder that the call itself has made. -/
set_option linter.unusedVariables false
set_option linter.unusedSimpArgs false
namespace Go.Proofs.YtpmieapgbdbabaaDoor.QAll
open Go.RowKit Go.Shelf Go.Proofs.YtpmieapgbdbabaaDoorW.PrintWords Go.Proofs.YtpmieapgbdbabaaDoorW.PrintLast Go.Proofs.YtpmieapgbdbabaaDoorW.PrintMore

theorem sizeBuilder : (Tryd.prog.info? 106).map (·.size) = some 2 := by kernel_rfl
theorem liesBuilder : liesAt Tryd.prog Tryd.prog.depth 106 (2 / Tryd.prog.cellsOf 106) 0 106 1 = true := by kernel_rfl
theorem infoByte : (Tryd.prog.info? 5).map (fun i => (i.zero, i.size, i.bytes)) = some (some (.int .u8 0), 1, 1) := by kernel_rfl
set_option maxHeartbeats 1000000 in
set_option maxRecDepth 100000 in
theorem copyCheck_used (b : Nat) (w : World) (h0 : w.cell? ⟨b, 0, none⟩ = some (.pointer (some ⟨b, 0, none⟩))) :
    Calls Tryd.prog 90 #[.pointer (some ⟨b, 0, none⟩)] w fun e w' => e = .returned (.tuple #[]) ∧ w' = w := by
  obtain ⟨j, hj, _⟩ := Option.map_eq_some_iff.1 sizeBuilder
  go_enter Tryd.func90, Tryd.ntmps90
  go_wp2
  rw [Lib.run_neq_ptr_same w _ Tryd.underlying103 hj]
  go_wp2
  go_end0
  exact ⟨rfl, rfl⟩
set_option maxHeartbeats 1000000 in
set_option maxRecDepth 100000 in
theorem copyCheck_fresh (b : Nat) (w : World) (h0 : w.cell? ⟨b, 0, none⟩ = some (.pointer none)) (hsh : w.shape? b = some (106, 2)) (hfz : w.frozen? ⟨b, 0, none⟩ = false) :
    Calls Tryd.prog 90 #[.pointer (some ⟨b, 0, none⟩)] w fun e w' => e = .returned (.tuple #[]) ∧ w' = w.setCell ⟨b, 0, none⟩ (.pointer (some ⟨b, 0, none⟩)) := by
  obtain ⟨j, hj, hjs⟩ := Option.map_eq_some_iff.1 sizeBuilder
  go_enter Tryd.func90, Tryd.ntmps90
  go_wp2
  rw [Lib.run_to_unsafe w ⟨b, 0, none⟩ Tryd.underlying103 Tryd.underlying153 hj (by rw [hjs]; decide) hsh (Nat.zero_lt_succ 1)]
  simp only [Result.andThen]
  rw [Oper.upon_value]
  go_wp2
  rw [run_callFunc_extern Tryd.func104 (by kernel_rfl) (by kernel_rfl) (by kernel_rfl) (e := Extern.AbiNoEscape.same) (by kernel_rfl)]
  rw [Lib.run_noEscape]
  simp only [Result.andThen]
  rw [Oper.upon_value]
  go_wp2
  rw [Lib.run_from_unsafe w ⟨b, 0, none⟩ Tryd.underlying153 Tryd.underlying103 hj hsh liesBuilder]
  simp only [Result.andThen]
  rw [Oper.upon_value]
  go_wp2
  go_end0
  exact ⟨rfl, rfl⟩
theorem copyCheck_any (B b : Nat) (bs : List Value) (w : World) (h : Lib.IsBuilder 106 5 B b bs w) :
    Calls Tryd.prog 90 #[.pointer (some ⟨b, 0, none⟩)] w fun e w' => e = .returned (.tuple #[]) ∧ (Lib.BuilderAt 106 5 B b (.pointer (some ⟨b, 0, none⟩)) bs w' ∧ Below B w w' ∧ ∀ i, i ≠ b → w'.heap[i]? = w.heap[i]?) := by
  rcases h with h | h
  · refine (copyCheck_fresh b w h.cell0 h.shape h.frozen0).mono ?_
    rintro e w' ⟨rfl, rfl⟩
    exact ⟨rfl, h.used _, (Below.refl B w).setCell (p := ⟨b, 0, none⟩) h.1 _, fun i hi => Below.heap_setCell w ⟨b, 0, none⟩ _ i hi⟩
  · refine (copyCheck_used b w h.cell0).mono ?_
    rintro e w' ⟨rfl, rfl⟩
    exact ⟨rfl, h, Below.refl B _, fun _ _ => rfl⟩
set_option maxHeartbeats 1000000 in
set_option maxRecDepth 100000 in
theorem writeString (B b : Nat) (bs : List Value) (s : ByteArray) (w : World) (h : Lib.IsBuilder 106 5 B b bs w) (hlen : bs.length + s.size ≤ 140737488355328) (hBw : B ≤ w.heap.size) :
    Calls Tryd.prog 66 #[.pointer (some ⟨b, 0, none⟩), .string s] w fun e w' => e = .returned (.tuple #[.int .i64 s.size, .nilIface]) ∧ (Lib.BuilderAt 106 5 B b (.pointer (some ⟨b, 0, none⟩)) (bs ++ Lib.strCells s) w' ∧ Below B w w' ∧ ∀ (i : Nat) (t : TypeId) (cs : Array Value), i ≠ b → t ≠ 5 → w.heap[i]? = some (.cells cs t (0, 0)) → w'.heap[i]? = some (.cells cs t (0, 0))) := by
  obtain ⟨i0, hi, hz0, hz1, hz2⟩ := info_parts infoByte
  go_enter Tryd.func66, Tryd.ntmps66
  go_wp2_with (go_at_call 90; refine (copyCheck_any B b bs _ h).mono ?_)
  rintro e w1 ⟨rfl, h1, hb1, hk1⟩
  obtain ⟨hB, v, hbk, hown, hne⟩ := h1
  have c0 : w1.cell? ⟨b, 0, none⟩ = some (.pointer (some ⟨b, 0, none⟩)) := by rw [Lib.cell_of_heap hbk]; rfl
  have c1 : w1.cell? ⟨b, 1, none⟩ = some v := by rw [Lib.cell_of_heap hbk]; rfl
  go_wp2_with (at_builtin; refine Lib.wpList_append_own_string _ rfl _ _ 104 9 rfl B 5 i0 Tryd.underlying104 Tryd.underlying9 hi hz0 hz1 hz2 _ _ _ rfl hown s rfl ?c3 ?c4 ?c5 ?_)
  case c3 => unfold maxLen; omega
  case c4 => omega
  case c5 => have := hb1.size; omega
  intro v' w2 hown' hgrow _
  have hlt : b < w1.heap.size := by
    rcases Nat.lt_or_ge b w1.heap.size with h' | h'
    · exact h'
    · simp [Array.getElem?_eq_none h'] at hbk
  have hb2 : w2.heap[b]? = some (.cells #[.pointer (some ⟨b, 0, none⟩), v] 106 (0, 0)) := by
    rw [hgrow.block b hlt (fun e => hne e.symm)]
    exact hbk
  have d0 : w2.cell? ⟨b, 0, none⟩ = some (.pointer (some ⟨b, 0, none⟩)) := by rw [Lib.cell_of_heap hb2]; rfl
  have d1 : w2.cell? ⟨b, 1, none⟩ = some v := by rw [Lib.cell_of_heap hb2]; rfl
  have f1 : w2.frozen? ⟨b, 1, none⟩ = false := Lib.frozen_of_heap hb2 1
  obtain ⟨ao, n', cap, rfl⟩ : ∃ ao n' cap, v' = .slice ao n' cap := by
    rcases hown'.2 with ⟨hv, _⟩ | ⟨g, cap, cur, hv, _⟩
    · exact ⟨_, _, _, hv⟩
    · exact ⟨_, _, _, hv⟩
  go_wp2
  go_ret2
  refine ⟨rfl, ?_, ?_, ?_⟩
  · exact Lib.BuilderAt.put (T := 106) (e := 5) hB hb2 (bs' := bs ++ Lib.strCells s) (by simpa [Lib.strCells_length] using hown') (by decide)
  · exact (hb1.grown hgrow (by have := hb1.size; omega) (fun k hk => (hown.lt k hk).1)).setCell (p := ⟨b, 1, none⟩) hB _
  · intro i t cs hib ht hi
    have h1i := (hk1 i hib).trans hi
    have hil : i < w1.heap.size := by
      rcases Nat.lt_or_ge i w1.heap.size with h' | h'
      · exact h'
      · simp [Array.getElem?_eq_none h'] at h1i
    have hne2 : some i ≠ v.ownBlock := own_ne hown h1i (Ne.symm ht)
    rw [Below.heap_setCell _ ⟨b, 1, none⟩ _ i hib, hgrow.block i hil hne2]
    exact h1i
end Go.Proofs.YtpmieapgbdbabaaDoor.QAll
end

section
/- What the walks take from the library's shelf, at this program: written by the kit's own tools, the wanted ones picked by a program of this session (wip/pp/shelf.py). -/
namespace Go.Proofs
open Go.Shelf
def Tryd.laysM171_ren : Go.Shelf.Ren := ⟨fun | 171 => 69 | 243 => 91 | 246 => 105 | 283 => 120 | 284 => 121 | 285 => 122 | 286 => 123 | 129 => 139 | 317 => 138 | 318 => 140 | 319 => 141 | 320 => 142 | 337 => 150 | 338 => 151 | n => n, fun | 3 => 3 | 9 => 9 | 2 => 2 | 4 => 4 | 171 => 168 | 0 => 0 | 53 => 169 | 37 => 104 | 5 => 5 | 173 => 172 | 212 => 186 | 51 => 187 | 20 => 20 | 213 => 188 | 46 => 129 | 232 => 203 | 233 => 204 | n => n, fun | 17 => 3 | 18 => 6 | 19 => 7 | n => n⟩
def Tryd.lays171_ren : Go.Shelf.Ren := ⟨fun | 171 => 69 | 243 => 91 | 246 => 105 | 283 => 120 | 284 => 121 | 285 => 122 | 286 => 123 | 129 => 139 | 317 => 138 | 318 => 140 | 319 => 141 | 320 => 142 | 337 => 150 | 338 => 151 | n => n, fun | 3 => 3 | 9 => 9 | 2 => 2 | 4 => 4 | 171 => 168 | 0 => 0 | 53 => 169 | 37 => 104 | 5 => 5 | 173 => 172 | 212 => 186 | 51 => 187 | 20 => 20 | 213 => 188 | 46 => 129 | 232 => 203 | 233 => 204 | n => n, fun | 17 => 3 | 18 => 6 | 19 => 7 | n => n⟩
theorem Tryd.lays171 : Go.Proofs.Lays.n171 Tryd.prog Tryd.lays171_ren := {
  mixed := by kernel_rfl
  f129 := Tryd.func139.trans (congrArg some (by kernel_rfl))
  f171 := Tryd.func69.trans (congrArg some (by kernel_rfl))
  f243 := Tryd.func91.trans (congrArg some (by kernel_rfl))
  f246 := Tryd.func105.trans (congrArg some (by kernel_rfl))
  f283 := Tryd.func120.trans (congrArg some (by kernel_rfl))
  f284 := Tryd.func121.trans (congrArg some (by kernel_rfl))
  f285 := Tryd.func122.trans (congrArg some (by kernel_rfl))
  f286 := Tryd.func123.trans (congrArg some (by kernel_rfl))
  f317 := Tryd.func138.trans (congrArg some (by kernel_rfl))
  f318 := Tryd.func140.trans (congrArg some (by kernel_rfl))
  f319 := Tryd.func141.trans (congrArg some (by kernel_rfl))
  f320 := Tryd.func142.trans (congrArg some (by kernel_rfl))
  f337 := Tryd.func150.trans (congrArg some (by kernel_rfl))
  f338 := Tryd.func151.trans (congrArg some (by kernel_rfl))
  t0 := Tryd.underlying0
  a0 := Tryd.isAgg0
  z0 := Tryd.sizeOf0
  v0 := Tryd.zeroValue0
  t2 := Tryd.underlying2
  a2 := Tryd.isAgg2
  z2 := Tryd.sizeOf2
  v2 := Tryd.zeroValue2
  t3 := Tryd.underlying3
  a3 := Tryd.isAgg3
  z3 := Tryd.sizeOf3
  v3 := Tryd.zeroValue3
  t4 := Tryd.underlying4
  a4 := Tryd.isAgg4
  z4 := Tryd.sizeOf4
  v4 := Tryd.zeroValue4
  t5 := Tryd.underlying5
  a5 := Tryd.isAgg5
  z5 := Tryd.sizeOf5
  v5 := Tryd.zeroValue5
  t9 := Tryd.underlying9
  a9 := Tryd.isAgg9
  z9 := Tryd.sizeOf9
  v9 := Tryd.zeroValue9
  t20 := Tryd.underlying20
  a20 := Tryd.isAgg20
  z20 := Tryd.sizeOf20
  v20 := Tryd.zeroValue20
  t37 := Tryd.underlying104
  a37 := Tryd.isAgg104
  z37 := Tryd.sizeOf104
  v37 := Tryd.zeroValue104
  t46 := Tryd.underlying129
  a46 := Tryd.isAgg129
  z46 := Tryd.sizeOf129
  v46 := Tryd.zeroValue129
  t51 := Tryd.underlying187
  a51 := Tryd.isAgg187
  z51 := Tryd.sizeOf187
  v51 := Tryd.zeroValue187
  t53 := Tryd.underlying169
  a53 := Tryd.isAgg169
  z53 := Tryd.sizeOf169
  v53 := Tryd.zeroValue169
  t171 := Tryd.underlying168
  a171 := Tryd.isAgg168
  z171 := Tryd.sizeOf168
  v171 := Tryd.zeroValue168
  t173 := Tryd.underlying172
  a173 := Tryd.isAgg172
  z173 := Tryd.sizeOf172
  v173 := Tryd.zeroValue172
  t212 := Tryd.underlying186
  a212 := Tryd.isAgg186
  z212 := Tryd.sizeOf186
  v212 := Tryd.zeroValue186
  t213 := Tryd.underlying188
  a213 := Tryd.isAgg188
  z213 := Tryd.sizeOf188
  t232 := Tryd.underlying203
  a232 := Tryd.isAgg203
  z232 := Tryd.sizeOf203
  v232 := Tryd.zeroValue203
  t233 := Tryd.underlying204
  a233 := Tryd.isAgg204
  z233 := Tryd.sizeOf204
  v233 := Tryd.zeroValue204
  g17 := by kernel_rfl
  g18 := by kernel_rfl
  g19 := by kernel_rfl }
open Go.RowKit Go.Sort Go.Lib in
theorem Tryd.strconv_Itoa_small (i : Nat) (hi : i < 100) (w : World) :
    Calls Tryd.prog 69 #[.int .i64 i] w fun e w' => e = .returned (.string ⟨(Lib.decDigits i).toArray⟩) ∧ w' = w := Any.strconv_Itoa_small Tryd.lays171 i hi w
end Go.Proofs
end

section
/- What the walks take from the library's shelf, at this program: written by the kit's own tools, the wanted ones picked by a program of this session (wip/pp/shelf.py). -/
namespace Go.Proofs
open Go.Shelf
def Tryd.lays169_ren : Go.Shelf.Ren := ⟨fun | 169 => 67 | n => n, fun | 70 => 103 | 9 => 9 | 0 => 0 | 72 => 106 | 37 => 104 | 127 => 137 | 3 => 3 | 5 => 5 | n => n, fun | n => n⟩
theorem Tryd.lays169 : Go.Proofs.Lays.n169 Tryd.prog Tryd.lays169_ren := {
  mixed := by kernel_rfl
  f169 := Tryd.func67.trans (congrArg some (by kernel_rfl))
  t0 := Tryd.underlying0
  a0 := Tryd.isAgg0
  z0 := Tryd.sizeOf0
  v0 := Tryd.zeroValue0
  t3 := Tryd.underlying3
  a3 := Tryd.isAgg3
  z3 := Tryd.sizeOf3
  v3 := Tryd.zeroValue3
  t9 := Tryd.underlying9
  a9 := Tryd.isAgg9
  z9 := Tryd.sizeOf9
  v9 := Tryd.zeroValue9
  t37 := Tryd.underlying104
  a37 := Tryd.isAgg104
  z37 := Tryd.sizeOf104
  v37 := Tryd.zeroValue104
  t70 := Tryd.underlying103
  a70 := Tryd.isAgg103
  z70 := Tryd.sizeOf103
  v70 := Tryd.zeroValue103
  t72 := Tryd.underlying106
  a72 := Tryd.isAgg106
  z72 := Tryd.sizeOf106
  v72 := Tryd.zeroValue106
  t127 := Tryd.underlying137
  a127 := Tryd.isAgg137
  z127 := Tryd.sizeOf137
  v127 := Tryd.zeroValue137 }
theorem Tryd.Builder_Extra_169 : Builder.Extra Tryd.prog Tryd.lays169_ren := {
  sizeBuilder := by kernel_rfl
  liesBuilder := by kernel_rfl
  t5 := Tryd.underlying5
  a5 := Tryd.isAgg5
  z5 := Tryd.sizeOf5
  v5 := Tryd.zeroValue5
  infoByte := by kernel_rfl
  cellsByte := by kernel_rfl
  sizeByte := by kernel_rfl
  neB5 := by decide }
open Go.RowKit in
theorem Tryd.Builder_String_any (B b : Nat) (l : List UInt8) (w : World) (h : Lib.IsBuilder 106 5 B b (Lib.byteCells l) w) (hBw : B ≤ w.heap.size) :
    Calls Tryd.prog 67 #[.pointer (some ⟨b, 0, none⟩)] w fun e w' => e = .returned (.string ⟨l.toArray⟩) ∧ Below B w w' := Any.Builder_String_any Tryd.lays169 Tryd.Builder_Extra_169 B b l w h hBw
end Go.Proofs
end

section
/- strconv.Itoa of a number from 0 to 99, by the shelf's contract: its digits. -/
set_option linter.unusedVariables false
namespace Go.Proofs.YtpmieapgbdbabaaDoor.QAll
open Go.RowKit Go.Proofs.YtpmieapgbdbabaaDoorW.PrintWords Go.Proofs.YtpmieapgbdbabaaDoorW.PrintLast Go.Proofs.YtpmieapgbdbabaaDoorW.PrintMore
def strconv_Itoa_69.f (a0 : Int) : Option ByteArray := if 0 ≤ a0 ∧ a0 < 100 then some ⟨(Lib.decDigits a0.toNat).toArray⟩ else none
theorem strconv_Itoa_69.calls (a0 : Int) (r : ByteArray) (w : World) (h : strconv_Itoa_69.f a0 = some r) :
    Calls Tryd.prog 69 #[.int .i64 a0] w fun e w' => e = .returned (.string r) ∧ Drawn0 w w' := by
  unfold strconv_Itoa_69.f at h
  split at h
  case isFalse => cases h
  rename_i hs
  obtain rfl := Option.some.inj h
  obtain ⟨n, rfl⟩ := Int.eq_ofNat_of_zero_le hs.1
  refine (Tryd.strconv_Itoa_small n (by omega) w).mono ?_
  rintro e w' ⟨rfl, rfl⟩
  exact ⟨rfl, Drawn0.refl _⟩
end Go.Proofs.YtpmieapgbdbabaaDoor.QAll
end
