/- Words, walks and plain laws that the row of the law ScriptParses rests on. -/
import Derived.Test.YtndgaeldndgioaaGreatDoorMScriptParses0
import Derived.Laws.RangeString
import Derived.Lib.OthersKept
import Derived.RegionTactic
import Derived.Shelf.Strings.Builder1
import Derived.Shelf.Strings.Builder2
import Derived.Shelf.Strings.OnBuilder
import Derived.Shelf.Small.Strs
import Derived.Shelf.Small.Wraps
import Derived.Shelf.Strings.BuilderF
import Derived.Shelf.Strings.BuilderK
import Derived.Shelf.Utf8.RuneCount
import Derived.Shelf.Strings.Builder2Cap
import Derived.Shelf.Strconv.Atoi
import Derived.Shelf.Strconv.Itoa0
import Derived.Shelf.Strconv.Itoa1
import Derived.Shelf.LaysM
import Derived.Shelf.Strconv.Itoa2
import Derived.Shelf.Strconv.Itoa3
import Derived.Shelf.Strconv.AtoiErrFast
import Derived.Shelf.Strconv.ParseIntEmpty
import Derived.Shelf.Strconv.AtoiFail
import Derived.Shelf.Strconv.Clone
import Derived.Shelf.Strconv.SyntaxError
import Derived.Shelf.LaysC
import Derived.Shelf.Strconv.ToError
import Derived.Shelf.Strconv.AtoiErr
import Derived.Shelf.Strconv.ErrVar
import Derived.Shelf.Strconv.Lower
import Derived.Shelf.Strconv.ParseUint10
import Derived.Shelf.Strconv.ParseUint10Empty
import Derived.Shelf.Strconv.ParseUint10Any
import Derived.Shelf.Strconv.ParseInt10
import Derived.Shelf.Strconv.AtoiLong
import Derived.Shelf.Strconv.AtoiInnerAll
import Derived.Shelf.Strconv.RangeError
import Derived.Shelf.Strconv.ToErrorRange
import Derived.Shelf.Strconv.AtoiAll
import Derived.Shelf.Strconv.ErrVarAll
import Derived.Shelf.Strconv.ParseUintEmpty
import Derived.Shelf.Strconv.ParseUint10b64
import Derived.Shelf.Strconv.ParseUint10b32
import Derived.Shelf.Strconv.ParseUint10b16
import Derived.Shelf.Strconv.ParseUint10b8
import Derived.Shelf.Strconv.ParseUint10At
import Derived.Shelf.Strings.Search1
import Derived.Shelf.Strings.Search2
import Derived.Shelf.Strings.Search3
import Derived.Shelf.Strings.Cut
import Derived.Shelf.Strings.Count
import Derived.Shelf.Strings.Shaped
import Derived.Shelf.Strings.Prefix
import Derived.Shelf.Strings.Split
import Derived.Shelf.Strings.SplitShaped
import Derived.Shelf.Unicode.Decode
import Derived.Shelf.Strings.RuneCount
import Derived.Shelf.Strings.Explode
import Derived.Shelf.Unicode.DecodeSlow
import Derived.Shelf.Unicode.DecodeAny
import Derived.Shelf.Strings.BuilderCap
import Derived.Test.YtndgaeldndgioaaGreatDoorProg
import Derived.WalkLawsBesides
section
/- squelchlaw30.whole at whole numbers from -9999 to 9999, as floats: the number, and that it is one. -/
set_option linter.unusedVariables false
set_option linter.unusedSimpArgs false
namespace Go.Proofs.YtndgaeldndgioaaGreatDoor.QAll
open Go.RowKit Go.Proofs.YtndgaeldndgioaaGreatDoorW.PrintWords Go.Proofs.YtndgaeldndgioaaGreatDoorW.PrintLast Go.Proofs.YtndgaeldndgioaaGreatDoorW.PrintMore
open Go.Proofs.YtndgaeldndgioaaGreatDoor.Fl
set_option maxHeartbeats 1000000 in
set_option maxRecDepth 100000 in
theorem whole_fl (n : Int) (h0 : -9999 ≤ n) (h1 : n ≤ 9999) (w : World) :
    Calls Tryz.prog 23 #[.float .f64 (fl n)] w fun e w' => e = .returned (.tuple #[.int .i64 n, .bool true]) ∧ Drawn0 w w' := by
  by_cases hin : -4000 ≤ n ∧ n ≤ 4000
  · go_enter Tryz.func23, Tryz.ntmps23
    go_wp2_with (go_at_call 56; refine (whole14_in n hin.1 hin.2 _).mono ?_; rintro e w' ⟨rfl, ⟨nd, rfl⟩⟩)
    all_goals (go_ret2; exact ⟨rfl, by repeat (first | exact Drawn0.refl _ | apply Drawn0.step | exact ⟨_, rfl⟩)⟩)
  · go_enter Tryz.func23, Tryz.ntmps23
    go_wp2_with (go_at_call 56; refine (whole14_out n h0 h1 hin _).mono ?_; rintro e w' ⟨rfl, ⟨nd, rfl⟩⟩)
    go_loopw [6] (fun i wr => ∃ j : Int, -9999 ≤ j ∧ j ≤ n ∧ i = .int .i64 j ∧ Aside0 (Drawn0 w wr)) (fun i _ => (n - intOf i).toNat)
    case atStart => exact ⟨-9999, by omega, h0, rfl, ⟨⟨_, rfl⟩⟩⟩
    case round =>
      obtain ⟨j, hj0, hj1, rfl, HD⟩ := hrel
      have hle : j ≤ 9999 := by omega
      have hq := eq_fl j n hj0 hle h0 h1
      by_cases he : j = n
      · obtain rfl := he
        have hq' : (FloatKind.f64.format.order (floatOfInt .f64 j) (fl j) == some .eq) = true := hq.trans (decide_eq_true rfl)
        go_wp2
        all_goals first
          | (rename_i hz; rw [hq'] at hz; cases hz; done)
          | (go_ret2; exact ⟨rfl, HD.out⟩)
      · rw [decide_eq_false he] at hq
        have hq' : (FloatKind.f64.format.order (floatOfInt .f64 j) (fl n) == some .eq) = false := hq
        go_wp2
        all_goals first
          | (rename_i hz; rw [hq'] at hz; cases hz; done)
          | skip
        all_goals go_roundw
        case rel => exact ⟨j + 1, by omega, by omega, by go_num, HD⟩
        case measure => simp [intOf]; omega
end Go.Proofs.YtndgaeldndgioaaGreatDoor.QAll
end

section
/- net.Event as the walks have it: its value, its draws in memory; squelchlaw30.Plain and script.same of such. -/
set_option linter.unusedVariables false
set_option linter.unusedSimpArgs false
namespace Go.Proofs.YtndgaeldndgioaaGreatDoor.QAll
open Go.RowKit Go.Proofs.YtndgaeldndgioaaGreatDoorW.PrintWords Go.Proofs.YtndgaeldndgioaaGreatDoorW.PrintLast Go.Proofs.YtndgaeldndgioaaGreatDoorW.PrintMore
open Go.Proofs.YtndgaeldndgioaaGreatDoor.Fl

structure Ev where
  k : Int
  a : Int
  b : Int
  n : Int
  m : Int
  s : ByteArray
  x : Int
  y : Int
  d : List Int
def evV (e : Ev) (A : Option Addr) (c : Nat) : Value := .agg #[.int .i64 e.k, .int .i64 e.a, .int .i64 e.b, .int .i64 e.n, .int .i64 e.m, .string e.s, .complex .f64 (fl e.x) (fl e.y), .slice A e.d.length c]
def EvIn (e : Ev) : Prop := -9999 ≤ e.x ∧ e.x ≤ 9999 ∧ -9999 ≤ e.y ∧ e.y ≤ 9999
def plV (e : Ev) : Value := .agg #[.int .i64 e.k, .int .i64 e.a, .int .i64 e.b, .int .i64 e.n, .int .i64 e.m, .string e.s, .int .i64 e.x, .int .i64 e.y, .string (strOfNums e.d)]
theorem below_set1 {w W : World} (h : Below w.heap.size w W) (j : Nat) (u : Value) : Below w.heap.size w (W.setCell ⟨w.heap.size + 1, j, none⟩ u) := Below.setCell (p := ⟨w.heap.size + 1, j, none⟩) h (Nat.le_succ _) u
theorem heap2 (w : World) (o1 o2 : Obj) (n : Nat) : (((w.alloc o1).alloc o2).drewN n).heap[w.heap.size + 1]? = some o2 := by
  have := heap_alloc_new (w.alloc o1) o2
  rw [World.size_alloc] at this
  exact this
theorem nine_set {w : World} {g : Nat} {a b c d e f h i j a' b' c' d' e' f' h' i' j' : Value} {t : TypeId} (hw : w.heap[g]? = some (.cells #[a, b, c, d, e, f, h, i, j] t (0, 0))) :
    (((((((((w.setCell ⟨g, 0, none⟩ a').setCell ⟨g, 1, none⟩ b').setCell ⟨g, 2, none⟩ c').setCell ⟨g, 3, none⟩ d').setCell ⟨g, 4, none⟩ e').setCell ⟨g, 5, none⟩ f').setCell ⟨g, 6, none⟩ h').setCell ⟨g, 7, none⟩ i').setCell ⟨g, 8, none⟩ j').heap[g]? = some (.cells #[a', b', c', d', e', f', h', i', j'] t (0, 0)) := by
  simp [World.setCell, Array.getElem?_modify, hw]
set_option maxHeartbeats 4000000 in
set_option maxRecDepth 100000 in
theorem plain_calls (e : Ev) (A : Option Addr) (c : Nat) (w : World) (hin : EvIn e) (hd : (Kd.int .u8).C w A e.d.length e.d) :
    Calls Tryz.prog 9 #[evV e A c] w fun r w' => r = .returned (.tuple #[plV e, .bool true]) ∧ Below w.heap.size w w' := by
  obtain ⟨k, a, b, n, m, s, x, y, d⟩ := e
  obtain ⟨h1, h2, h3, h4⟩ := hin
  simp only at h1 h2 h3 h4 hd
  unfold evV plV
  simp only
  have HC := Aside0.mk hd
  clear hd
  go_enter Tryz.func9, Tryz.ntmps9
  go_wp2_with (fail)
  (with_reducible refine (whole_fl x h1 h2 _).mono ?_)
  rintro e w1 ⟨rfl, ⟨nd1, rfl⟩⟩
  go_wp2_with (fail)
  (with_reducible refine (whole_fl y h3 h4 _).mono ?_)
  rintro e w1 ⟨rfl, ⟨nd2, rfl⟩⟩
  have HB := Aside0.mk (Below.refl w.heap.size w)
  have hcv := fun (W : World) (hb : Below w.heap.size w W) => Kd.C_string (P := Tryz.prog) (src := 24) (dst := 9) (e := 5) (c := c) Tryz.underlying24 Tryz.underlying5 Tryz.underlying9 (Kd.C_below HC.out hb)
  go_wp2_with (rw [hcv _ (by repeat (first | (with_reducible first | exact HB.out | apply below_alloc | apply pw_below_drewN | apply below_drew1) | exact HB.out))])
  refine bodyPost_ret (results_ct rfl _ _ (w.heap.size + 1) 31 #[.int .i64 k, .int .i64 a, .int .i64 b, .int .i64 n, .int .i64 m, .string s, .int .i64 x, .int .i64 y, .string (strOfNums d)] (0, 0) _ rfl ?hc Tryz.underlying31 rfl (by kernel_rfl)) rfl ?_
  case hc => exact nine_set (heap2 w _ _ _)
  exact ⟨rfl, by repeat (with_reducible first | exact HB.out | apply below_set1 | apply below_alloc | apply pw_below_drewN)⟩
set_option maxHeartbeats 8000000 in
set_option maxRecDepth 100000 in
/-- Two events that are alike. -/
theorem same_calls (e : Ev) (A A' : Option Addr) (c c' : Nat) (w : World) (hin : EvIn e) (hd : (Kd.int .u8).C w A e.d.length e.d) (hd' : (Kd.int .u8).C w A' e.d.length e.d) :
    Calls Tryz.prog 72 #[evV e A c, evV e A' c'] w fun r w' => r = .returned (.bool true) ∧ Below w.heap.size w w' := by
  obtain ⟨k, a, b, n, m, s, x, y, d⟩ := e
  obtain ⟨h1, h2, h3, h4⟩ := hin
  simp only at h1 h2 h3 h4 hd hd'
  unfold evV
  simp only
  have HC := Aside0.mk hd
  have HC' := Aside0.mk hd'
  clear hd hd'
  have hx : (FloatKind.f64.format.order (fl x) (fl x) == some .eq) = true := (eq_fl x x h1 h2 h1 h2).trans (decide_eq_true rfl)
  have hy : (FloatKind.f64.format.order (fl y) (fl y) == some .eq) = true := (eq_fl y y h3 h4 h3 h4).trans (decide_eq_true rfl)
  have HB := Aside0.mk (Below.refl w.heap.size w)
  have hcv := fun (W : World) (hb : Below w.heap.size w W) => Kd.C_string (P := Tryz.prog) (src := 24) (dst := 9) (e := 5) (c := c) Tryz.underlying24 Tryz.underlying5 Tryz.underlying9 (Kd.C_below HC.out hb)
  have hcv' := fun (W : World) (hb : Below w.heap.size w W) => Kd.C_string (P := Tryz.prog) (src := 24) (dst := 9) (e := 5) (c := c') Tryz.underlying24 Tryz.underlying5 Tryz.underlying9 (Kd.C_below HC'.out hb)
  go_enter Tryz.func72, Tryz.ntmps72
  go_wp2_with (first | rw [hcv _ (by repeat (first | (with_reducible first | exact HB.out | apply below_alloc | apply pw_below_drewN | apply below_drew1) | exact HB.out))] | rw [hcv' _ (by repeat (first | (with_reducible first | exact HB.out | apply below_alloc | apply pw_below_drewN | apply below_drew1) | exact HB.out))] | simp only [hx, hy])
  go_ret
  exact ⟨rfl, by repeat (first | (with_reducible first | exact HB.out | apply below_alloc | apply pw_below_drewN | apply below_drew1) | exact HB.out)⟩
end Go.Proofs.YtndgaeldndgioaaGreatDoor.QAll
end

section
/- script.number and script.word, walked by hand: a field's address by its letter; one word of an event that read may tell. -/
set_option linter.unusedVariables false
set_option linter.unusedSimpArgs false
namespace Go.Proofs.YtndgaeldndgioaaGreatDoor.QAll
open Go.RowKit Go.Proofs.YtndgaeldndgioaaGreatDoorW.PrintWords Go.Proofs.YtndgaeldndgioaaGreatDoorW.PrintLast Go.Proofs.YtndgaeldndgioaaGreatDoorW.PrintMore
open Go.Proofs.YtndgaeldndgioaaGreatDoor.Fl

/-- Where a letter's number stands in an event. -/
def offI (c : Int) : Nat := if c = 65 then 1 else if c = 66 then 2 else if c = 78 then 3 else 4
set_option maxHeartbeats 1000000 in
set_option maxRecDepth 100000 in
theorem number_calls (g : Nat) (c : Int) (w : World) :
    Calls Tryz.prog 81 #[.pointer (some ⟨g, 0, none⟩), .int .i32 c] w fun e w' => e = .returned (.pointer (some ⟨g, offI c, none⟩)) ∧ Drawn0 w w' := by
  by_cases h1 : c = 65
  · obtain rfl := h1
    go_enter Tryz.func81, Tryz.ntmps81
    go_wp2
    go_ret
    exact ⟨rfl, by repeat (first | exact Drawn0.refl _ | apply Drawn0.step)⟩
  by_cases h2 : c = 66
  · obtain rfl := h2
    go_enter Tryz.func81, Tryz.ntmps81
    go_wp2
    go_ret
    exact ⟨rfl, by repeat (first | exact Drawn0.refl _ | apply Drawn0.step)⟩
  by_cases h3 : c = 78
  · obtain rfl := h3
    go_enter Tryz.func81, Tryz.ntmps81
    go_wp2
    go_ret
    exact ⟨rfl, by repeat (first | exact Drawn0.refl _ | apply Drawn0.step)⟩
  have e1 : (c == 65) = false := beq_false_of_ne h1
  have e2 : (c == 66) = false := beq_false_of_ne h2
  have e3 : (c == 78) = false := beq_false_of_ne h3
  go_enter Tryz.func81, Tryz.ntmps81
  go_wp2
  go_ret
  exact ⟨by unfold offI; rw [if_neg h1, if_neg h2, if_neg h3]; rfl, by repeat (first | exact Drawn0.refl _ | apply Drawn0.step)⟩
theorem cells8 {w : World} {g : Nat} {v0 v1 v2 v3 v4 v5 v6 v7 : Value} {t : TypeId} (h : w.heap[g]? = some (.cells #[v0, v1, v2, v3, v4, v5, v6, v7] t (0, 0))) :
    w.cell? ⟨g, 0, none⟩ = some v0 ∧ w.cell? ⟨g, 1, none⟩ = some v1 ∧ w.cell? ⟨g, 2, none⟩ = some v2 ∧ w.cell? ⟨g, 3, none⟩ = some v3 ∧ w.cell? ⟨g, 4, none⟩ = some v4 ∧ w.cell? ⟨g, 5, none⟩ = some v5 ∧ w.cell? ⟨g, 6, none⟩ = some v6 ∧ w.cell? ⟨g, 7, none⟩ = some v7 := by
  simp [World.cell?, h]
theorem escS_size (s : ByteArray) (h : s.size ≤ 100000) : (escS s).size ≤ 300000 := by
  have := escL_le s s.size (Nat.le_refl _)
  unfold escS
  show (escL s s.size).toArray.size ≤ _
  simp; omega
set_option maxHeartbeats 8000000 in
set_option maxRecDepth 100000 in
theorem word_S (e : Ev) (A : Option Addr) (c : Nat) (w : World) (hE : EnvW w) (hin : EvIn e) (hd : (Kd.int .u8).C w A e.d.length e.d) (hs : e.s.size ≤ 100000) :
    Calls Tryz.prog 73 #[evV e A c, .int .i32 83] w fun r w' => r = .returned (.tuple #[.string (⟨#[61]⟩ ++ escS e.s), .bool (decide ((e.s.size : Int) ≤ 300))]) ∧ Below w.heap.size w w' := by
  obtain ⟨k, a, b, n, m, s, x, y, d⟩ := e
  obtain ⟨h1, h2, h3, h4⟩ := hin
  simp only at h1 h2 h3 h4 hd hs
  unfold evV
  simp only
  have HC := Aside0.mk hd
  clear hd
  go_enter Tryz.func73, Tryz.ntmps73
  go_wp2_with (fail)
  have HB := Aside0.mk ((Below.refl w.heap.size w).alloc (Nat.le_refl _) (.cells #[.int .i64 k, .int .i64 a, .int .i64 b, .int .i64 n, .int .i64 m, .string s, .complex .f64 (fl x) (fl y), .slice A d.length c] 26 (0, 0)))
  have HX := Aside0.mk (heap_alloc_new w (.cells #[.int .i64 k, .int .i64 a, .int .i64 b, .int .i64 n, .int .i64 m, .string s, .complex .f64 (fl x) (fl y), .slice A d.length c] 26 (0, 0)))
  have HZ := Aside0.mk (show w.heap.size < (w.alloc (.cells #[.int .i64 k, .int .i64 a, .int .i64 b, .int .i64 n, .int .i64 m, .string s, .complex .f64 (fl x) (fl y), .slice A d.length c] 26 (0, 0))).heap.size by simp)
  have HE := Aside0.mk (hE.below ((Below.refl w.heap.size w).alloc (Nat.le_refl _) (.cells #[.int .i64 k, .int .i64 a, .int .i64 b, .int .i64 n, .int .i64 m, .string s, .complex .f64 (fl x) (fl y), .slice A d.length c] 26 (0, 0))))
  generalize (w.alloc (.cells #[.int .i64 k, .int .i64 a, .int .i64 b, .int .i64 n, .int .i64 m, .string s, .complex .f64 (fl x) (fl y), .slice A d.length c] 26 (0, 0))) = w0 at HB HX HZ HE ⊢
  obtain ⟨k0, k1, k2, k3, k4, k5, k6, k7⟩ := cells8 HX.out
  have hz := escS_size s hs
  have hz1 : (⟨#[61]⟩ : ByteArray).size = 1 := rfl
  go_region_with (first | (go_at_call 95; (with_reducible refine (script_escape.calls s (escS s) _ (by unfold script_escape.f; rw [if_pos hs])).mono ?_); rintro e w1 ⟨rfl, hb⟩; have n0_ := Aside0.mk (below_step (by repeat (first | (with_reducible first | exact HB.out | apply pw_below_drewN | apply below_drew1) | exact HB.out)) hb); have n1_ := Aside0.mk ((hb.block w.heap.size HZ.out).trans HX.out); have n2_ := Aside0.mk (Nat.lt_of_lt_of_le HZ.out hb.size); clear HB HX HZ hb k0 k1 k2 k3 k4 k5 k6 k7; have HB := n0_; have HX := n1_; have HZ := n2_; clear n0_ n1_ n2_; obtain ⟨k0, k1, k2, k3, k4, k5, k6, k7⟩ := cells8 HX.out))
  all_goals first
    | (exfalso; omega)
    | (go_wp2; go_ret2; exact ⟨rfl, HB.out⟩)
def I64 (n : Int) : Prop := -9223372036854775808 ≤ n ∧ n ≤ 9223372036854775807
def fitsB (n : Int) : Bool := decide (-9999 ≤ n) && decide (n ≤ 9999)
set_option maxHeartbeats 8000000 in
set_option maxRecDepth 100000 in
theorem word_X (e : Ev) (A : Option Addr) (c : Nat) (w : World) (hE : EnvW w) (hin : EvIn e) (hd : (Kd.int .u8).C w A e.d.length e.d) :
    Calls Tryz.prog 73 #[evV e A c, .int .i32 88] w fun r w' => r = .returned (.tuple #[.string (itoaB e.x), .bool true]) ∧ Below w.heap.size w w' := by
  obtain ⟨k, a, b, n, m, s, x, y, d⟩ := e
  obtain ⟨h1, h2, h3, h4⟩ := hin
  simp only at h1 h2 h3 h4 hd
  unfold evV
  simp only
  have HC := Aside0.mk hd
  clear hd
  go_enter Tryz.func73, Tryz.ntmps73
  have HB := Aside0.mk ((Below.refl w.heap.size w).alloc (Nat.le_refl _) (.cells #[.int .i64 k, .int .i64 a, .int .i64 b, .int .i64 n, .int .i64 m, .string s, .complex .f64 (fl x) (fl y), .slice A d.length c] 26 (0, 0)))
  have HX := Aside0.mk (heap_alloc_new w (.cells #[.int .i64 k, .int .i64 a, .int .i64 b, .int .i64 n, .int .i64 m, .string s, .complex .f64 (fl x) (fl y), .slice A d.length c] 26 (0, 0)))
  have HZ := Aside0.mk (show w.heap.size < (w.alloc (.cells #[.int .i64 k, .int .i64 a, .int .i64 b, .int .i64 n, .int .i64 m, .string s, .complex .f64 (fl x) (fl y), .slice A d.length c] 26 (0, 0))).heap.size by simp)
  have HE := Aside0.mk (hE.below ((Below.refl w.heap.size w).alloc (Nat.le_refl _) (.cells #[.int .i64 k, .int .i64 a, .int .i64 b, .int .i64 n, .int .i64 m, .string s, .complex .f64 (fl x) (fl y), .slice A d.length c] 26 (0, 0))))
  go_wp2_with (fail)
  (with_reducible refine (part_fl x h1 h2 _).mono ?_)
  rintro e w1 ⟨rfl, ⟨nd, rfl⟩⟩
  have p1 : decide (-9999 ≤ x) = true := decide_eq_true (by omega)
  have p2 : decide (x ≤ 9999) = true := decide_eq_true (by omega)
  go_wp2_with (fail)
  refine (itoa_any x (by omega) (by omega) _ (HE.out.below (by repeat (first | (with_reducible first | exact Below.refl _ _ | apply pw_below_drewN | apply below_drew1) | exact Below.refl _ _)))).mono ?_
  rintro e w2 ⟨rfl, hb⟩
  go_wp2_with (fail)
  all_goals first
    | (exfalso; omega)
    | (go_ret2; exact ⟨rfl, below_step (by repeat (first | (with_reducible first | exact HB.out | apply pw_below_drewN | apply below_drew1) | exact HB.out)) hb⟩)
    | trace_state
set_option maxHeartbeats 8000000 in
set_option maxRecDepth 100000 in
theorem word_Y (e : Ev) (A : Option Addr) (c : Nat) (w : World) (hE : EnvW w) (hin : EvIn e) (hd : (Kd.int .u8).C w A e.d.length e.d) :
    Calls Tryz.prog 73 #[evV e A c, .int .i32 89] w fun r w' => r = .returned (.tuple #[.string (itoaB e.y), .bool true]) ∧ Below w.heap.size w w' := by
  obtain ⟨k, a, b, n, m, s, x, y, d⟩ := e
  obtain ⟨h1, h2, h3, h4⟩ := hin
  simp only at h1 h2 h3 h4 hd
  unfold evV
  simp only
  have HC := Aside0.mk hd
  clear hd
  go_enter Tryz.func73, Tryz.ntmps73
  have HB := Aside0.mk ((Below.refl w.heap.size w).alloc (Nat.le_refl _) (.cells #[.int .i64 k, .int .i64 a, .int .i64 b, .int .i64 n, .int .i64 m, .string s, .complex .f64 (fl x) (fl y), .slice A d.length c] 26 (0, 0)))
  have HX := Aside0.mk (heap_alloc_new w (.cells #[.int .i64 k, .int .i64 a, .int .i64 b, .int .i64 n, .int .i64 m, .string s, .complex .f64 (fl x) (fl y), .slice A d.length c] 26 (0, 0)))
  have HZ := Aside0.mk (show w.heap.size < (w.alloc (.cells #[.int .i64 k, .int .i64 a, .int .i64 b, .int .i64 n, .int .i64 m, .string s, .complex .f64 (fl x) (fl y), .slice A d.length c] 26 (0, 0))).heap.size by simp)
  have HE := Aside0.mk (hE.below ((Below.refl w.heap.size w).alloc (Nat.le_refl _) (.cells #[.int .i64 k, .int .i64 a, .int .i64 b, .int .i64 n, .int .i64 m, .string s, .complex .f64 (fl x) (fl y), .slice A d.length c] 26 (0, 0))))
  go_wp2_with (fail)
  (with_reducible refine (part_fl y h3 h4 _).mono ?_)
  rintro e w1 ⟨rfl, ⟨nd, rfl⟩⟩
  have p1 : decide (-9999 ≤ y) = true := decide_eq_true (by omega)
  have p2 : decide (y ≤ 9999) = true := decide_eq_true (by omega)
  go_wp2_with (fail)
  refine (itoa_any y (by omega) (by omega) _ (HE.out.below (by repeat (first | (with_reducible first | exact Below.refl _ _ | apply pw_below_drewN | apply below_drew1) | exact Below.refl _ _)))).mono ?_
  rintro e w2 ⟨rfl, hb⟩
  go_wp2_with (fail)
  all_goals first
    | (exfalso; omega)
    | (go_ret2; exact ⟨rfl, below_step (by repeat (first | (with_reducible first | exact HB.out | apply pw_below_drewN | apply below_drew1) | exact HB.out)) hb⟩)
    | trace_state
set_option maxHeartbeats 8000000 in
set_option maxRecDepth 100000 in
theorem word_A (e : Ev) (A : Option Addr) (c : Nat) (w : World) (hE : EnvW w) (hin : EvIn e) (hd : (Kd.int .u8).C w A e.d.length e.d) (hi : I64 e.a) :
    Calls Tryz.prog 73 #[evV e A c, .int .i32 65] w fun r w' => r = .returned (.tuple #[.string (itoaB e.a), .bool (fitsB e.a)]) ∧ Below w.heap.size w w' := by
  obtain ⟨k, a, b, n, m, s, x, y, d⟩ := e
  obtain ⟨h1, h2, h3, h4⟩ := hin
  simp only at h1 h2 h3 h4 hd hi
  unfold evV
  simp only
  have HC := Aside0.mk hd
  clear hd
  go_enter Tryz.func73, Tryz.ntmps73
  have HB := Aside0.mk ((Below.refl w.heap.size w).alloc (Nat.le_refl _) (.cells #[.int .i64 k, .int .i64 a, .int .i64 b, .int .i64 n, .int .i64 m, .string s, .complex .f64 (fl x) (fl y), .slice A d.length c] 26 (0, 0)))
  have HX := Aside0.mk (heap_alloc_new w (.cells #[.int .i64 k, .int .i64 a, .int .i64 b, .int .i64 n, .int .i64 m, .string s, .complex .f64 (fl x) (fl y), .slice A d.length c] 26 (0, 0)))
  have HZ := Aside0.mk (show w.heap.size < (w.alloc (.cells #[.int .i64 k, .int .i64 a, .int .i64 b, .int .i64 n, .int .i64 m, .string s, .complex .f64 (fl x) (fl y), .slice A d.length c] 26 (0, 0))).heap.size by simp)
  have HE := Aside0.mk (hE.below ((Below.refl w.heap.size w).alloc (Nat.le_refl _) (.cells #[.int .i64 k, .int .i64 a, .int .i64 b, .int .i64 n, .int .i64 m, .string s, .complex .f64 (fl x) (fl y), .slice A d.length c] 26 (0, 0))))
  have hcall := fun W => number_calls w.heap.size 65 W
  rw [show offI 65 = 1 from rfl] at hcall
  go_wp2_with (fail)
  (with_reducible refine (hcall _).mono ?_)
  rintro e w1 ⟨rfl, ⟨nd, rfl⟩⟩

  by_cases g1 : -9999 ≤ a
  · by_cases g2 : a ≤ 9999
    · have p1 : decide (-9999 ≤ a) = true := decide_eq_true g1
      have p2 : decide (a ≤ 9999) = true := decide_eq_true g2
      go_wp2_with (fail)
      refine (itoa_any a hi.1 hi.2 _ (HE.out.below (by repeat (first | (with_reducible first | exact Below.refl _ _ | apply pw_below_drewN | apply below_drew1) | exact Below.refl _ _)))).mono ?_
      rintro e w2 ⟨rfl, hb⟩
      go_wp2_with (fail)
      all_goals first
        | (go_ret2; exact ⟨by unfold fitsB; rw [p1, p2]; rfl, below_step (by repeat (first | (with_reducible first | exact HB.out | apply pw_below_drewN | apply below_drew1) | exact HB.out)) hb⟩)
        | trace_state
    · have p1 : decide (-9999 ≤ a) = true := decide_eq_true g1
      have p2 : decide (a ≤ 9999) = false := decide_eq_false g2
      go_wp2_with (fail)
      refine (itoa_any a hi.1 hi.2 _ (HE.out.below (by repeat (first | (with_reducible first | exact Below.refl _ _ | apply pw_below_drewN | apply below_drew1) | exact Below.refl _ _)))).mono ?_
      rintro e w2 ⟨rfl, hb⟩
      go_wp2_with (fail)
      all_goals first
        | (go_ret2; exact ⟨by unfold fitsB; rw [p1, p2]; rfl, below_step (by repeat (first | (with_reducible first | exact HB.out | apply pw_below_drewN | apply below_drew1) | exact HB.out)) hb⟩)
        | trace_state
  · have p1 : decide (-9999 ≤ a) = false := decide_eq_false g1
    go_wp2_with (fail)
    refine (itoa_any a hi.1 hi.2 _ (HE.out.below (by repeat (first | (with_reducible first | exact Below.refl _ _ | apply pw_below_drewN | apply below_drew1) | exact Below.refl _ _)))).mono ?_
    rintro e w2 ⟨rfl, hb⟩
    go_wp2_with (fail)
    all_goals first
      | (go_ret2; exact ⟨by unfold fitsB; rw [p1]; rfl, below_step (by repeat (first | (with_reducible first | exact HB.out | apply pw_below_drewN | apply below_drew1) | exact HB.out)) hb⟩)
      | trace_state
set_option maxHeartbeats 8000000 in
set_option maxRecDepth 100000 in
theorem word_B (e : Ev) (A : Option Addr) (c : Nat) (w : World) (hE : EnvW w) (hin : EvIn e) (hd : (Kd.int .u8).C w A e.d.length e.d) (hi : I64 e.b) :
    Calls Tryz.prog 73 #[evV e A c, .int .i32 66] w fun r w' => r = .returned (.tuple #[.string (itoaB e.b), .bool (fitsB e.b)]) ∧ Below w.heap.size w w' := by
  obtain ⟨k, a, b, n, m, s, x, y, d⟩ := e
  obtain ⟨h1, h2, h3, h4⟩ := hin
  simp only at h1 h2 h3 h4 hd hi
  unfold evV
  simp only
  have HC := Aside0.mk hd
  clear hd
  go_enter Tryz.func73, Tryz.ntmps73
  have HB := Aside0.mk ((Below.refl w.heap.size w).alloc (Nat.le_refl _) (.cells #[.int .i64 k, .int .i64 a, .int .i64 b, .int .i64 n, .int .i64 m, .string s, .complex .f64 (fl x) (fl y), .slice A d.length c] 26 (0, 0)))
  have HX := Aside0.mk (heap_alloc_new w (.cells #[.int .i64 k, .int .i64 a, .int .i64 b, .int .i64 n, .int .i64 m, .string s, .complex .f64 (fl x) (fl y), .slice A d.length c] 26 (0, 0)))
  have HZ := Aside0.mk (show w.heap.size < (w.alloc (.cells #[.int .i64 k, .int .i64 a, .int .i64 b, .int .i64 n, .int .i64 m, .string s, .complex .f64 (fl x) (fl y), .slice A d.length c] 26 (0, 0))).heap.size by simp)
  have HE := Aside0.mk (hE.below ((Below.refl w.heap.size w).alloc (Nat.le_refl _) (.cells #[.int .i64 k, .int .i64 a, .int .i64 b, .int .i64 n, .int .i64 m, .string s, .complex .f64 (fl x) (fl y), .slice A d.length c] 26 (0, 0))))
  have hcall := fun W => number_calls w.heap.size 66 W
  rw [show offI 66 = 2 from rfl] at hcall
  go_wp2_with (fail)
  (with_reducible refine (hcall _).mono ?_)
  rintro e w1 ⟨rfl, ⟨nd, rfl⟩⟩

  by_cases g1 : -9999 ≤ b
  · by_cases g2 : b ≤ 9999
    · have p1 : decide (-9999 ≤ b) = true := decide_eq_true g1
      have p2 : decide (b ≤ 9999) = true := decide_eq_true g2
      go_wp2_with (fail)
      refine (itoa_any b hi.1 hi.2 _ (HE.out.below (by repeat (first | (with_reducible first | exact Below.refl _ _ | apply pw_below_drewN | apply below_drew1) | exact Below.refl _ _)))).mono ?_
      rintro e w2 ⟨rfl, hb⟩
      go_wp2_with (fail)
      all_goals first
        | (go_ret2; exact ⟨by unfold fitsB; rw [p1, p2]; rfl, below_step (by repeat (first | (with_reducible first | exact HB.out | apply pw_below_drewN | apply below_drew1) | exact HB.out)) hb⟩)
        | trace_state
    · have p1 : decide (-9999 ≤ b) = true := decide_eq_true g1
      have p2 : decide (b ≤ 9999) = false := decide_eq_false g2
      go_wp2_with (fail)
      refine (itoa_any b hi.1 hi.2 _ (HE.out.below (by repeat (first | (with_reducible first | exact Below.refl _ _ | apply pw_below_drewN | apply below_drew1) | exact Below.refl _ _)))).mono ?_
      rintro e w2 ⟨rfl, hb⟩
      go_wp2_with (fail)
      all_goals first
        | (go_ret2; exact ⟨by unfold fitsB; rw [p1, p2]; rfl, below_step (by repeat (first | (with_reducible first | exact HB.out | apply pw_below_drewN | apply below_drew1) | exact HB.out)) hb⟩)
        | trace_state
  · have p1 : decide (-9999 ≤ b) = false := decide_eq_false g1
    go_wp2_with (fail)
    refine (itoa_any b hi.1 hi.2 _ (HE.out.below (by repeat (first | (with_reducible first | exact Below.refl _ _ | apply pw_below_drewN | apply below_drew1) | exact Below.refl _ _)))).mono ?_
    rintro e w2 ⟨rfl, hb⟩
    go_wp2_with (fail)
    all_goals first
      | (go_ret2; exact ⟨by unfold fitsB; rw [p1]; rfl, below_step (by repeat (first | (with_reducible first | exact HB.out | apply pw_below_drewN | apply below_drew1) | exact HB.out)) hb⟩)
      | trace_state
set_option maxHeartbeats 8000000 in
set_option maxRecDepth 100000 in
theorem word_N (e : Ev) (A : Option Addr) (c : Nat) (w : World) (hE : EnvW w) (hin : EvIn e) (hd : (Kd.int .u8).C w A e.d.length e.d) (hi : I64 e.n) :
    Calls Tryz.prog 73 #[evV e A c, .int .i32 78] w fun r w' => r = .returned (.tuple #[.string (itoaB e.n), .bool (fitsB e.n)]) ∧ Below w.heap.size w w' := by
  obtain ⟨k, a, b, n, m, s, x, y, d⟩ := e
  obtain ⟨h1, h2, h3, h4⟩ := hin
  simp only at h1 h2 h3 h4 hd hi
  unfold evV
  simp only
  have HC := Aside0.mk hd
  clear hd
  go_enter Tryz.func73, Tryz.ntmps73
  have HB := Aside0.mk ((Below.refl w.heap.size w).alloc (Nat.le_refl _) (.cells #[.int .i64 k, .int .i64 a, .int .i64 b, .int .i64 n, .int .i64 m, .string s, .complex .f64 (fl x) (fl y), .slice A d.length c] 26 (0, 0)))
  have HX := Aside0.mk (heap_alloc_new w (.cells #[.int .i64 k, .int .i64 a, .int .i64 b, .int .i64 n, .int .i64 m, .string s, .complex .f64 (fl x) (fl y), .slice A d.length c] 26 (0, 0)))
  have HZ := Aside0.mk (show w.heap.size < (w.alloc (.cells #[.int .i64 k, .int .i64 a, .int .i64 b, .int .i64 n, .int .i64 m, .string s, .complex .f64 (fl x) (fl y), .slice A d.length c] 26 (0, 0))).heap.size by simp)
  have HE := Aside0.mk (hE.below ((Below.refl w.heap.size w).alloc (Nat.le_refl _) (.cells #[.int .i64 k, .int .i64 a, .int .i64 b, .int .i64 n, .int .i64 m, .string s, .complex .f64 (fl x) (fl y), .slice A d.length c] 26 (0, 0))))
  have hcall := fun W => number_calls w.heap.size 78 W
  rw [show offI 78 = 3 from rfl] at hcall
  go_wp2_with (fail)
  (with_reducible refine (hcall _).mono ?_)
  rintro e w1 ⟨rfl, ⟨nd, rfl⟩⟩

  by_cases g1 : -9999 ≤ n
  · by_cases g2 : n ≤ 9999
    · have p1 : decide (-9999 ≤ n) = true := decide_eq_true g1
      have p2 : decide (n ≤ 9999) = true := decide_eq_true g2
      go_wp2_with (fail)
      refine (itoa_any n hi.1 hi.2 _ (HE.out.below (by repeat (first | (with_reducible first | exact Below.refl _ _ | apply pw_below_drewN | apply below_drew1) | exact Below.refl _ _)))).mono ?_
      rintro e w2 ⟨rfl, hb⟩
      go_wp2_with (fail)
      all_goals first
        | (go_ret2; exact ⟨by unfold fitsB; rw [p1, p2]; rfl, below_step (by repeat (first | (with_reducible first | exact HB.out | apply pw_below_drewN | apply below_drew1) | exact HB.out)) hb⟩)
        | trace_state
    · have p1 : decide (-9999 ≤ n) = true := decide_eq_true g1
      have p2 : decide (n ≤ 9999) = false := decide_eq_false g2
      go_wp2_with (fail)
      refine (itoa_any n hi.1 hi.2 _ (HE.out.below (by repeat (first | (with_reducible first | exact Below.refl _ _ | apply pw_below_drewN | apply below_drew1) | exact Below.refl _ _)))).mono ?_
      rintro e w2 ⟨rfl, hb⟩
      go_wp2_with (fail)
      all_goals first
        | (go_ret2; exact ⟨by unfold fitsB; rw [p1, p2]; rfl, below_step (by repeat (first | (with_reducible first | exact HB.out | apply pw_below_drewN | apply below_drew1) | exact HB.out)) hb⟩)
        | trace_state
  · have p1 : decide (-9999 ≤ n) = false := decide_eq_false g1
    go_wp2_with (fail)
    refine (itoa_any n hi.1 hi.2 _ (HE.out.below (by repeat (first | (with_reducible first | exact Below.refl _ _ | apply pw_below_drewN | apply below_drew1) | exact Below.refl _ _)))).mono ?_
    rintro e w2 ⟨rfl, hb⟩
    go_wp2_with (fail)
    all_goals first
      | (go_ret2; exact ⟨by unfold fitsB; rw [p1]; rfl, below_step (by repeat (first | (with_reducible first | exact HB.out | apply pw_below_drewN | apply below_drew1) | exact HB.out)) hb⟩)
      | trace_state
set_option maxHeartbeats 8000000 in
set_option maxRecDepth 100000 in
theorem word_M (e : Ev) (A : Option Addr) (c : Nat) (w : World) (hE : EnvW w) (hin : EvIn e) (hd : (Kd.int .u8).C w A e.d.length e.d) (hi : I64 e.m) :
    Calls Tryz.prog 73 #[evV e A c, .int .i32 77] w fun r w' => r = .returned (.tuple #[.string (itoaB e.m), .bool (fitsB e.m)]) ∧ Below w.heap.size w w' := by
  obtain ⟨k, a, b, n, m, s, x, y, d⟩ := e
  obtain ⟨h1, h2, h3, h4⟩ := hin
  simp only at h1 h2 h3 h4 hd hi
  unfold evV
  simp only
  have HC := Aside0.mk hd
  clear hd
  go_enter Tryz.func73, Tryz.ntmps73
  have HB := Aside0.mk ((Below.refl w.heap.size w).alloc (Nat.le_refl _) (.cells #[.int .i64 k, .int .i64 a, .int .i64 b, .int .i64 n, .int .i64 m, .string s, .complex .f64 (fl x) (fl y), .slice A d.length c] 26 (0, 0)))
  have HX := Aside0.mk (heap_alloc_new w (.cells #[.int .i64 k, .int .i64 a, .int .i64 b, .int .i64 n, .int .i64 m, .string s, .complex .f64 (fl x) (fl y), .slice A d.length c] 26 (0, 0)))
  have HZ := Aside0.mk (show w.heap.size < (w.alloc (.cells #[.int .i64 k, .int .i64 a, .int .i64 b, .int .i64 n, .int .i64 m, .string s, .complex .f64 (fl x) (fl y), .slice A d.length c] 26 (0, 0))).heap.size by simp)
  have HE := Aside0.mk (hE.below ((Below.refl w.heap.size w).alloc (Nat.le_refl _) (.cells #[.int .i64 k, .int .i64 a, .int .i64 b, .int .i64 n, .int .i64 m, .string s, .complex .f64 (fl x) (fl y), .slice A d.length c] 26 (0, 0))))
  have hcall := fun W => number_calls w.heap.size 77 W
  rw [show offI 77 = 4 from rfl] at hcall
  go_wp2_with (fail)
  (with_reducible refine (hcall _).mono ?_)
  rintro e w1 ⟨rfl, ⟨nd, rfl⟩⟩

  by_cases g1 : -9999 ≤ m
  · by_cases g2 : m ≤ 9999
    · have p1 : decide (-9999 ≤ m) = true := decide_eq_true g1
      have p2 : decide (m ≤ 9999) = true := decide_eq_true g2
      go_wp2_with (fail)
      refine (itoa_any m hi.1 hi.2 _ (HE.out.below (by repeat (first | (with_reducible first | exact Below.refl _ _ | apply pw_below_drewN | apply below_drew1) | exact Below.refl _ _)))).mono ?_
      rintro e w2 ⟨rfl, hb⟩
      go_wp2_with (fail)
      all_goals first
        | (go_ret2; exact ⟨by unfold fitsB; rw [p1, p2]; rfl, below_step (by repeat (first | (with_reducible first | exact HB.out | apply pw_below_drewN | apply below_drew1) | exact HB.out)) hb⟩)
        | trace_state
    · have p1 : decide (-9999 ≤ m) = true := decide_eq_true g1
      have p2 : decide (m ≤ 9999) = false := decide_eq_false g2
      go_wp2_with (fail)
      refine (itoa_any m hi.1 hi.2 _ (HE.out.below (by repeat (first | (with_reducible first | exact Below.refl _ _ | apply pw_below_drewN | apply below_drew1) | exact Below.refl _ _)))).mono ?_
      rintro e w2 ⟨rfl, hb⟩
      go_wp2_with (fail)
      all_goals first
        | (go_ret2; exact ⟨by unfold fitsB; rw [p1, p2]; rfl, below_step (by repeat (first | (with_reducible first | exact HB.out | apply pw_below_drewN | apply below_drew1) | exact HB.out)) hb⟩)
        | trace_state
  · have p1 : decide (-9999 ≤ m) = false := decide_eq_false g1
    go_wp2_with (fail)
    refine (itoa_any m hi.1 hi.2 _ (HE.out.below (by repeat (first | (with_reducible first | exact Below.refl _ _ | apply pw_below_drewN | apply below_drew1) | exact Below.refl _ _)))).mono ?_
    rintro e w2 ⟨rfl, hb⟩
    go_wp2_with (fail)
    all_goals first
      | (go_ret2; exact ⟨by unfold fitsB; rw [p1]; rfl, below_step (by repeat (first | (with_reducible first | exact HB.out | apply pw_below_drewN | apply below_drew1) | exact HB.out)) hb⟩)
      | trace_state
end Go.Proofs.YtndgaeldndgioaaGreatDoor.QAll
end

section
/- script.word of a tick's draws, walked by hand. -/
set_option linter.unusedVariables false
set_option linter.unusedSimpArgs false
namespace Go.Proofs.YtndgaeldndgioaaGreatDoor.QAll
open Go.RowKit Go.Proofs.YtndgaeldndgioaaGreatDoorW.PrintWords Go.Proofs.YtndgaeldndgioaaGreatDoorW.PrintLast Go.Proofs.YtndgaeldndgioaaGreatDoorW.PrintMore
open Go.Proofs.YtndgaeldndgioaaGreatDoor.Fl

def hexD (d : List Int) : ByteArray := ⟨(d.flatMap fun c => (twoS c).data.toList).toArray⟩
theorem hexD_snoc (d : List Int) (c : Int) : hexD (d ++ [c]) = hexD d ++ twoS c := by
  have h : ∀ a b : ByteArray, a.data.toList = b.data.toList → a = b := fun a b h => by
    obtain ⟨a⟩ := a
    obtain ⟨b⟩ := b
    congr 1
    exact Array.ext' h
  apply h
  unfold hexD
  rw [List.flatMap_append]
  simp
theorem hexD_size : ∀ (d : List Int), (∀ c ∈ d, 0 ≤ c ∧ c ≤ 255) → (hexD d).size = 2 * d.length
  | [], _ => rfl
  | c :: d, h => by
    have h1 := hexD_size d (fun c hc => h c (List.mem_cons_of_mem _ hc))
    have h2 := two_size c (h c List.mem_cons_self).1 (h c List.mem_cons_self).2
    have e : hexD (c :: d) = twoS c ++ hexD d := by
      have hh : ∀ a b : ByteArray, a.data.toList = b.data.toList → a = b := fun a b h => by
        obtain ⟨a⟩ := a
        obtain ⟨b⟩ := b
        congr 1
        exact Array.ext' h
      apply hh
      unfold hexD
      simp
    rw [e, ByteArray.size_append, h1, h2, List.length_cons]
    omega
set_option maxHeartbeats 8000000 in
set_option maxRecDepth 100000 in
theorem word_D (e : Ev) (A : Option Addr) (c : Nat) (w : World) (hd : (Kd.int .u8).C w A e.d.length e.d) (hb : ∀ z ∈ e.d, 0 ≤ z ∧ z ≤ 255) (hl : e.d.length ≤ 100000) :
    Calls Tryz.prog 73 #[evV e A c, .int .i32 68] w fun r w' => r = .returned (.tuple #[.string (⟨#[35]⟩ ++ hexD e.d), .bool (decide ((e.d.length : Int) ≤ 16))]) ∧ Below w.heap.size w w' := by
  obtain ⟨k, a, b, n, m, s, x, y, d⟩ := e
  simp only at hd hb hl
  unfold evV
  simp only
  have HC := Aside0.mk hd
  have HQ := Aside0.mk hb
  clear hd hb
  have hz1 : (⟨#[35]⟩ : ByteArray).size = 1 := rfl
  go_enter Tryz.func73, Tryz.ntmps73
  have HB := Aside0.mk ((Below.refl w.heap.size w).alloc (Nat.le_refl _) (.cells #[.int .i64 k, .int .i64 a, .int .i64 b, .int .i64 n, .int .i64 m, .string s, .complex .f64 (fl x) (fl y), .slice A d.length c] 26 (0, 0)))
  go_wp2_with (fail)
  have HX := Aside0.mk (heap_alloc_new w (.cells #[.int .i64 k, .int .i64 a, .int .i64 b, .int .i64 n, .int .i64 m, .string s, .complex .f64 (fl x) (fl y), .slice A d.length c] 26 (0, 0)))
  generalize (w.alloc (.cells #[.int .i64 k, .int .i64 a, .int .i64 b, .int .i64 n, .int .i64 m, .string s, .complex .f64 (fl x) (fl y), .slice A d.length c] 26 (0, 0))) = w0 at HB HX ⊢
  go_loopw [8, 31] (fun v8 v31 wr => ∃ j : Nat, j ≤ d.length ∧ v8 = .string (⟨#[35]⟩ ++ hexD (d.take j)) ∧ v31 = .int .i64 j ∧ Aside0 (Below w.heap.size w wr) ∧ Aside0 (wr.heap[w.heap.size]? = some (.cells #[.int .i64 k, .int .i64 a, .int .i64 b, .int .i64 n, .int .i64 m, .string s, .complex .f64 (fl x) (fl y), .slice A d.length c] 26 (0, 0)))) (fun _ v31 _ => d.length - (intOf v31).toNat)
  case atStart => exact ⟨0, Nat.zero_le _, by rfl, rfl, HB, HX⟩
  case round =>
    obtain ⟨j, hj, rfl, rfl, HB1, HX1⟩ := hrel
    clear HB HX
    obtain ⟨k0, k1, k2, k3, k4, k5, k6, k7⟩ := cells8 HX1.out
    have hbt : ∀ z ∈ d.take j, 0 ≤ z ∧ z ≤ 255 := fun z hz => HQ.out z (List.mem_of_mem_take hz)
    have hsz := hexD_size (d.take j) hbt
    rw [List.length_take, Nat.min_eq_left hj] at hsz
    clear hbt
    by_cases hlt : j < d.length
    · obtain ⟨ad, hA, hx⟩ := Kd.at_int (Kd.C_below HC.out HB1.out) (j : Int) (by omega) (by omega)
      subst hA
      have er : rd d (j : Int) = d[j] := by
        unfold rd
        rw [Int.toNat_natCast, List.getD_eq_getElem?_getD, List.getElem?_eq_getElem hlt]
        rfl
      have hr := HQ.out d[j] (List.getElem_mem hlt)
      rw [← er] at hr
      have hsz2 := two_size (rd d (j : Int)) hr.1 hr.2
      have hi0 : (0 : Int) ≤ j := by omega
      have hi1 : (j : Int) < d.length := by omega
      have ht : d.take (j + 1) = d.take j ++ [rd d (j : Int)] := by rw [List.take_succ_eq_append_getElem hlt, er]
      have HT := Aside0.mk ht
      have HE := Aside0.mk er
      clear ht er
      rw [Int.toNat_natCast] at hx
      go_wp2_with (first | (go_at_call 96; (with_reducible refine (script_digits.calls (rd d (j : Int)) (twoS (rd d (j : Int))) _ (dig _ hr.1 hr.2)).mono ?_); rintro e w2 ⟨rfl, ⟨nd, rfl⟩⟩))
      all_goals go_roundw
      case rel => exact ⟨j + 1, by omega, by rw [HT.out, hexD_snoc, ByteArray.append_assoc], by go_num, ⟨pw_below_drewN HB1.out _⟩, HX1⟩
      case measure => simp [intOf]; omega
    · obtain rfl : j = d.length := by omega
      go_wp2_with (fail)
      repeat (go_quiet (fail); try go_wp2)
      go_ret2
      exact ⟨by simp only [List.take_length]; rfl, by repeat (first | (with_reducible first | exact HB1.out | apply pw_below_drewN | apply below_drew1) | exact HB1.out)⟩
end Go.Proofs.YtndgaeldndgioaaGreatDoor.QAll
end

section
/- Walks, written by a program of this session (wip/pp): a Go function comes to what the Lean function beside it tells. -/
namespace Go.Proofs.YtndgaeldndgioaaGreatDoor.QAll
open Go.RowKit Go.Proofs.YtndgaeldndgioaaGreatDoorW.PrintWords Go.Proofs.YtndgaeldndgioaaGreatDoorW.PrintLast Go.Proofs.YtndgaeldndgioaaGreatDoorW.PrintMore
attribute [local go_sem] max2_int min2_int max_two min_two max_three min_three max_four min_four
set_option linter.unusedVariables false
set_option linter.unusedSimpArgs false

def script_forms.f  : Option (List ByteArray) := some (([(⟨#[]⟩ : ByteArray), (⟨#[75, 69, 89, 83, 32, 65, 83]⟩ : ByteArray), (⟨#[75, 73, 83, 83, 32, 65, 83]⟩ : ByteArray), (⟨#[82, 69, 65, 68, 32, 65]⟩ : ByteArray), (⟨#[84, 73, 67, 75, 32, 68]⟩ : ByteArray), (⟨#[76, 79, 83, 69, 32, 65, 66]⟩ : ByteArray), (⟨#[83, 80, 79, 73, 76, 32, 65, 66, 78, 77]⟩ : ByteArray), (⟨#[66, 76, 79, 67, 75, 32, 65, 66]⟩ : ByteArray), (⟨#[79, 80, 69, 78, 32, 65, 66]⟩ : ByteArray), (⟨#[83, 84, 65, 78, 68, 32, 65, 88, 89, 78]⟩ : ByteArray), (⟨#[77, 79, 86, 69, 32, 65, 88, 89]⟩ : ByteArray), (⟨#[84, 85, 82, 78, 32, 65, 88, 89]⟩ : ByteArray)] : List ByteArray))
set_option maxHeartbeats 8000000 in
set_option maxRecDepth 100000 in
theorem script_forms.calls  (r : List ByteArray) (w : World) (h : script_forms.f  = some r) :
  Calls Tryz.prog 74 #[] w fun e w' => ∃ v0_ : Value, e = .returned (v0_) ∧ Kd.R Kd.string 9 w' w.heap.size (fun _ => True) v0_ r ∧ Below w.heap.size w w' := by
 have HB := Aside0.mk (Below.refl w.heap.size w)
 have H : (some (([(⟨#[]⟩ : ByteArray), (⟨#[75, 69, 89, 83, 32, 65, 83]⟩ : ByteArray), (⟨#[75, 73, 83, 83, 32, 65, 83]⟩ : ByteArray), (⟨#[82, 69, 65, 68, 32, 65]⟩ : ByteArray), (⟨#[84, 73, 67, 75, 32, 68]⟩ : ByteArray), (⟨#[76, 79, 83, 69, 32, 65, 66]⟩ : ByteArray), (⟨#[83, 80, 79, 73, 76, 32, 65, 66, 78, 77]⟩ : ByteArray), (⟨#[66, 76, 79, 67, 75, 32, 65, 66]⟩ : ByteArray), (⟨#[79, 80, 69, 78, 32, 65, 66]⟩ : ByteArray), (⟨#[83, 84, 65, 78, 68, 32, 65, 88, 89, 78]⟩ : ByteArray), (⟨#[77, 79, 86, 69, 32, 65, 88, 89]⟩ : ByteArray), (⟨#[84, 85, 82, 78, 32, 65, 88, 89]⟩ : ByteArray)] : List ByteArray))) = some r := h
 clear h
 obtain ⟨y103, hy103⟩ : ∃ y_ : List ByteArray, y_ = (([(⟨#[]⟩ : ByteArray), (⟨#[75, 69, 89, 83, 32, 65, 83]⟩ : ByteArray), (⟨#[75, 73, 83, 83, 32, 65, 83]⟩ : ByteArray), (⟨#[82, 69, 65, 68, 32, 65]⟩ : ByteArray), (⟨#[84, 73, 67, 75, 32, 68]⟩ : ByteArray), (⟨#[76, 79, 83, 69, 32, 65, 66]⟩ : ByteArray), (⟨#[83, 80, 79, 73, 76, 32, 65, 66, 78, 77]⟩ : ByteArray), (⟨#[66, 76, 79, 67, 75, 32, 65, 66]⟩ : ByteArray), (⟨#[79, 80, 69, 78, 32, 65, 66]⟩ : ByteArray), (⟨#[83, 84, 65, 78, 68, 32, 65, 88, 89, 78]⟩ : ByteArray), (⟨#[77, 79, 86, 69, 32, 65, 88, 89]⟩ : ByteArray), (⟨#[84, 85, 82, 78, 32, 65, 88, 89]⟩ : ByteArray)] : List ByteArray)) := ⟨_, rfl⟩
 replace H : (some y103) = some r := by first | (rw [hy103]; with_reducible exact H) | (have H2_ := (Option.bind_some _ _).symm.trans H; rw [hy103]; with_reducible exact H2_) | (have H2_ := (Option.bind_some _ _).symm.trans H; with_reducible exact H2_) | with_reducible exact H | (rw [hy103]; exact H) | exact H
 have Ny103 := Aside0.mk hy103
 clear hy103
 obtain rfl := Option.some.inj H
 go_enter Tryz.func74, Tryz.ntmps74
 go_wp2_with (first | ((with_reducible refine gate_dst (N := 1) rfl ?_); refine Kd.R_lit Kd.string _ 9 ?hg (N := 1) ?hd (xs := ([(⟨#[]⟩ : ByteArray), (⟨#[75, 69, 89, 83, 32, 65, 83]⟩ : ByteArray), (⟨#[75, 73, 83, 83, 32, 65, 83]⟩ : ByteArray), (⟨#[82, 69, 65, 68, 32, 65]⟩ : ByteArray), (⟨#[84, 73, 67, 75, 32, 68]⟩ : ByteArray), (⟨#[76, 79, 83, 69, 32, 65, 66]⟩ : ByteArray), (⟨#[83, 80, 79, 73, 76, 32, 65, 66, 78, 77]⟩ : ByteArray), (⟨#[66, 76, 79, 67, 75, 32, 65, 66]⟩ : ByteArray), (⟨#[79, 80, 69, 78, 32, 65, 66]⟩ : ByteArray), (⟨#[83, 84, 65, 78, 68, 32, 65, 88, 89, 78]⟩ : ByteArray), (⟨#[77, 79, 86, 69, 32, 65, 88, 89]⟩ : ByteArray), (⟨#[84, 85, 82, 78, 32, 65, 88, 89]⟩ : ByteArray)] : List ByteArray)) (inner := [.string (⟨#[]⟩ : ByteArray), .string (⟨#[75, 69, 89, 83, 32, 65, 83]⟩ : ByteArray), .string (⟨#[75, 73, 83, 83, 32, 65, 83]⟩ : ByteArray), .string (⟨#[82, 69, 65, 68, 32, 65]⟩ : ByteArray), .string (⟨#[84, 73, 67, 75, 32, 68]⟩ : ByteArray), .string (⟨#[76, 79, 83, 69, 32, 65, 66]⟩ : ByteArray), .string (⟨#[83, 80, 79, 73, 76, 32, 65, 66, 78, 77]⟩ : ByteArray), .string (⟨#[66, 76, 79, 67, 75, 32, 65, 66]⟩ : ByteArray), .string (⟨#[79, 80, 69, 78, 32, 65, 66]⟩ : ByteArray), .string (⟨#[83, 84, 65, 78, 68, 32, 65, 88, 89, 78]⟩ : ByteArray), .string (⟨#[77, 79, 86, 69, 32, 65, 88, 89]⟩ : ByteArray), .string (⟨#[84, 85, 82, 78, 32, 65, 88, 89]⟩ : ByteArray)]) (ok := fun _ => True) (okp := fun _ => True) ?hr ?hp (fun _ hk => hk) trivial (Below.refl _ _) (Nat.le_refl _) (by simp) ?_; (case hd => rfl); (case hg => rfl); (case hr => first | (go_simp; done) | (go_simp; rfl)); (case hp => exact (Reps.one (show Kd.M Kd.string _ _ _ (⟨#[]⟩ : ByteArray) [.string (⟨#[]⟩ : ByteArray)] from rfl) (Reps.one (show Kd.M Kd.string _ _ _ (⟨#[75, 69, 89, 83, 32, 65, 83]⟩ : ByteArray) [.string (⟨#[75, 69, 89, 83, 32, 65, 83]⟩ : ByteArray)] from rfl) (Reps.one (show Kd.M Kd.string _ _ _ (⟨#[75, 73, 83, 83, 32, 65, 83]⟩ : ByteArray) [.string (⟨#[75, 73, 83, 83, 32, 65, 83]⟩ : ByteArray)] from rfl) (Reps.one (show Kd.M Kd.string _ _ _ (⟨#[82, 69, 65, 68, 32, 65]⟩ : ByteArray) [.string (⟨#[82, 69, 65, 68, 32, 65]⟩ : ByteArray)] from rfl) (Reps.one (show Kd.M Kd.string _ _ _ (⟨#[84, 73, 67, 75, 32, 68]⟩ : ByteArray) [.string (⟨#[84, 73, 67, 75, 32, 68]⟩ : ByteArray)] from rfl) (Reps.one (show Kd.M Kd.string _ _ _ (⟨#[76, 79, 83, 69, 32, 65, 66]⟩ : ByteArray) [.string (⟨#[76, 79, 83, 69, 32, 65, 66]⟩ : ByteArray)] from rfl) (Reps.one (show Kd.M Kd.string _ _ _ (⟨#[83, 80, 79, 73, 76, 32, 65, 66, 78, 77]⟩ : ByteArray) [.string (⟨#[83, 80, 79, 73, 76, 32, 65, 66, 78, 77]⟩ : ByteArray)] from rfl) (Reps.one (show Kd.M Kd.string _ _ _ (⟨#[66, 76, 79, 67, 75, 32, 65, 66]⟩ : ByteArray) [.string (⟨#[66, 76, 79, 67, 75, 32, 65, 66]⟩ : ByteArray)] from rfl) (Reps.one (show Kd.M Kd.string _ _ _ (⟨#[79, 80, 69, 78, 32, 65, 66]⟩ : ByteArray) [.string (⟨#[79, 80, 69, 78, 32, 65, 66]⟩ : ByteArray)] from rfl) (Reps.one (show Kd.M Kd.string _ _ _ (⟨#[83, 84, 65, 78, 68, 32, 65, 88, 89, 78]⟩ : ByteArray) [.string (⟨#[83, 84, 65, 78, 68, 32, 65, 88, 89, 78]⟩ : ByteArray)] from rfl) (Reps.one (show Kd.M Kd.string _ _ _ (⟨#[77, 79, 86, 69, 32, 65, 88, 89]⟩ : ByteArray) [.string (⟨#[77, 79, 86, 69, 32, 65, 88, 89]⟩ : ByteArray)] from rfl) (Reps.one (show Kd.M Kd.string _ _ _ (⟨#[84, 85, 82, 78, 32, 65, 88, 89]⟩ : ByteArray) [.string (⟨#[84, 85, 82, 78, 32, 65, 88, 89]⟩ : ByteArray)] from rfl) (Reps.none _ _)))))))))))))); intro v104 w1 ho2 hb hg_ hnew_; clear hg_ hnew_; (first | rw [← Ny103.out] at ho2 | (simp only [Int.reduceToNat] at ho2; rw [← Ny103.out] at ho2)); have n0_ := Aside0.mk (Kd.R_lower ho2 (below_size (by repeat (first | (with_reducible first | exact HB.out | apply below_alloc | apply pw_below_drewN | apply below_drew1) | exact HB.out)))); have n1_ := Aside0.mk (below_step (by repeat (first | (with_reducible first | exact HB.out | apply below_alloc | apply pw_below_drewN | apply below_drew1) | exact HB.out)) hb); clear HB; have HO105 := n0_; have HB := n1_; clear n0_ n1_; clear hb ho2))
 go_ret
 exact ⟨_, by first | rfl | (simp [errW_none, errW_some] <;> rfl) | (simp [*, errW_none, errW_some] <;> rfl), by (with_reducible repeat (first | apply Kd.R_alloc | apply Kd.R_drewN | apply Kd.R_drew)); exact HO105.out, by repeat (first | (with_reducible first | exact HB.out | apply below_alloc | apply pw_below_drewN | apply below_drew1) | exact HB.out)⟩

end Go.Proofs.YtndgaeldndgioaaGreatDoor.QAll
end

section
/- Walks, written by a program of this session (wip/pp): a Go function comes to what the Lean function beside it tells. -/
namespace Go.Proofs.YtndgaeldndgioaaGreatDoor.QAll
open Go.RowKit Go.Proofs.YtndgaeldndgioaaGreatDoorW.PrintWords Go.Proofs.YtndgaeldndgioaaGreatDoorW.PrintLast Go.Proofs.YtndgaeldndgioaaGreatDoorW.PrintMore
attribute [local go_sem] max2_int min2_int max_two min_two max_three min_three max_four min_four
set_option linter.unusedVariables false
set_option linter.unusedSimpArgs false

def script_form.f (a0 : Int) : Option (ByteArray × ByteArray) := (script_forms.f).bind fun t106 => (if a0 < 1 then (some ((⟨#[]⟩ : ByteArray), (⟨#[]⟩ : ByteArray))) else (if a0 ≥ (t106.length : Int) then (some ((⟨#[]⟩ : ByteArray), (⟨#[]⟩ : ByteArray))) else (if 0 ≤ a0 then (if a0 < (t106.length : Int) then ((strings_Cut.f (rdOf ByteArray.empty t106 a0) (⟨#[32]⟩ : ByteArray)).bind fun bt110 => (some (bt110.1, bt110.2.1))) else (none)) else (none))))
set_option maxHeartbeats 8000000 in
set_option maxRecDepth 100000 in
theorem script_form.calls (a0 : Int) (r1 : ByteArray) (r2 : ByteArray) (w : World) (h : script_form.f a0 = some (r1, r2)) :
  Calls Tryz.prog 50 #[.int .i64 a0] w fun e w' => e = .returned (.tuple #[.string r1, .string r2]) ∧ Below w.heap.size w w' := by
 have HB := Aside0.mk (Below.refl w.heap.size w)
 have H : ((script_forms.f).bind fun t106 => (if a0 < 1 then (some ((⟨#[]⟩ : ByteArray), (⟨#[]⟩ : ByteArray))) else (if a0 ≥ (t106.length : Int) then (some ((⟨#[]⟩ : ByteArray), (⟨#[]⟩ : ByteArray))) else (if 0 ≤ a0 then (if a0 < (t106.length : Int) then ((strings_Cut.f (rdOf ByteArray.empty t106 a0) (⟨#[32]⟩ : ByteArray)).bind fun bt110 => (some (bt110.1, bt110.2.1))) else (none)) else (none))))) = some (r1, r2) := h
 clear h
 replace H := Option.bind_eq_some_iff.mp H
 obtain ⟨t106, A20, H⟩ := H
 replace H : (if a0 < 1 then (some ((⟨#[]⟩ : ByteArray), (⟨#[]⟩ : ByteArray))) else (if a0 ≥ (t106.length : Int) then (some ((⟨#[]⟩ : ByteArray), (⟨#[]⟩ : ByteArray))) else (if 0 ≤ a0 then (if a0 < (t106.length : Int) then ((strings_Cut.f (rdOf ByteArray.empty t106 a0) (⟨#[32]⟩ : ByteArray)).bind fun bt110 => (some (bt110.1, bt110.2.1))) else (none)) else (none)))) = some (r1, r2) := H
 have A2 := Aside0.mk A20
 clear A20
 by_cases c3 : a0 < 1
 ·rw [if_pos c3] at H
  have c3b0 : decide (a0 < 1) = true := decide_eq_true c3
  clear c3
  simp only [Option.some.injEq, Prod.mk.injEq] at H
  obtain ⟨rfl, rfl⟩ := H
  go_enter Tryz.func50, Tryz.ntmps50
  go_wp2_with (first | ((with_reducible refine gate_callee (f := 74) rfl ?_); refine goesL_ (some 8) rfl rfl Tryz.func74 (by kernel_rfl) rfl #[] rfl (by (try simp only [List.map_toArray, List.map_cons, List.map_nil]); first | done | rfl | (simp only [List.length_drop, List.length_take]; rfl)) ?_; (with_reducible refine (script_forms.calls  t106 _ A2.out).mono ?_); rintro e w4 ⟨v107, rfl, ho0, hb⟩; refine ⟨_, rfl, ?_⟩; have n0_ := Aside0.mk (Kd.R_lower ho0 (below_size (by repeat (first | (with_reducible first | exact HB.out | apply below_alloc | apply pw_below_drewN | apply below_drew1) | exact HB.out)))); have n1_ := Aside0.mk (below_step (by repeat (first | (with_reducible first | exact HB.out | apply below_alloc | apply pw_below_drewN | apply below_drew1) | exact HB.out)) hb); clear HB; have HO108 := n0_; have HB := n1_; clear n0_ n1_; (try clear hb); (try clear hb2); (try clear hk); (try clear hi); (try clear ho0)))
  go_ret2
  exact ⟨by first | rfl | (simp [errW_none, errW_some] <;> rfl) | (simp [*, errW_none, errW_some] <;> rfl), by repeat (first | (with_reducible first | exact HB.out | apply below_alloc | apply pw_below_drewN | apply below_drew1) | exact HB.out)⟩
 ·rw [if_neg c3] at H
  have c3b0 : decide (a0 < 1) = false := decide_eq_false c3
  clear c3
  by_cases c5 : a0 ≥ (t106.length : Int)
  ·rw [if_pos c5] at H
   have c5b0 : decide ((t106.length : Int) ≤ a0) = true := decide_eq_true c5
   clear c5
   simp only [Option.some.injEq, Prod.mk.injEq] at H
   obtain ⟨rfl, rfl⟩ := H
   go_enter Tryz.func50, Tryz.ntmps50
   go_wp2_with (first | ((with_reducible refine gate_callee (f := 74) rfl ?_); refine goesL_ (some 8) rfl rfl Tryz.func74 (by kernel_rfl) rfl #[] rfl (by (try simp only [List.map_toArray, List.map_cons, List.map_nil]); first | done | rfl | (simp only [List.length_drop, List.length_take]; rfl)) ?_; (with_reducible refine (script_forms.calls  t106 _ A2.out).mono ?_); rintro e w6 ⟨v107, rfl, ho0, hb⟩; refine ⟨_, rfl, ?_⟩; have n0_ := Aside0.mk (Kd.R_lower ho0 (below_size (by repeat (first | (with_reducible first | exact HB.out | apply below_alloc | apply pw_below_drewN | apply below_drew1) | exact HB.out)))); have n1_ := Aside0.mk (below_step (by repeat (first | (with_reducible first | exact HB.out | apply below_alloc | apply pw_below_drewN | apply below_drew1) | exact HB.out)) hb); clear HB; have HO108 := n0_; have HB := n1_; clear n0_ n1_; (try clear hb); (try clear hb2); (try clear hk); (try clear hi); (try clear ho0); obtain ⟨Ao7, co7, eo7⟩ := Kd.R_slice HO108.out; subst eo7))
   go_ret2
   exact ⟨by first | rfl | (simp [errW_none, errW_some] <;> rfl) | (simp [*, errW_none, errW_some] <;> rfl), by repeat (first | (with_reducible first | exact HB.out | apply below_alloc | apply pw_below_drewN | apply below_drew1) | exact HB.out)⟩
  ·rw [if_neg c5] at H
   have c5b0 : decide ((t106.length : Int) ≤ a0) = false := decide_eq_false c5
   clear c5
   by_cases c8 : 0 ≤ a0
   ·rw [if_pos c8] at H
    have c8b0 : decide (0 ≤ a0) = true := decide_eq_true c8
    clear c8
    by_cases c9 : a0 < (t106.length : Int)
    ·rw [if_pos c9] at H
     have c9b0 : decide (a0 < (t106.length : Int)) = true := decide_eq_true c9
     clear c9
     replace H := Option.bind_eq_some_iff.mp H
     obtain ⟨⟨t110, t111, t112⟩, A100, H⟩ := H
     replace H : (some (t110, t111)) = some (r1, r2) := H
     have A10 := Aside0.mk A100
     clear A100
     simp only [Option.some.injEq, Prod.mk.injEq] at H
     obtain ⟨rfl, rfl⟩ := H
     go_enter Tryz.func50, Tryz.ntmps50
     go_wp2_with (first | ((with_reducible refine gate_callee (f := 74) rfl ?_); refine goesL_ (some 8) rfl rfl Tryz.func74 (by kernel_rfl) rfl #[] rfl (by (try simp only [List.map_toArray, List.map_cons, List.map_nil]); first | done | rfl | (simp only [List.length_drop, List.length_take]; rfl)) ?_; (with_reducible refine (script_forms.calls  t106 _ A2.out).mono ?_); rintro e w11 ⟨v107, rfl, ho0, hb⟩; refine ⟨_, rfl, ?_⟩; have n0_ := Aside0.mk (Kd.R_lower ho0 (below_size (by repeat (first | (with_reducible first | exact HB.out | apply below_alloc | apply pw_below_drewN | apply below_drew1) | exact HB.out)))); have n1_ := Aside0.mk (below_step (by repeat (first | (with_reducible first | exact HB.out | apply below_alloc | apply pw_below_drewN | apply below_drew1) | exact HB.out)) hb); clear HB; have HO108 := n0_; have HB := n1_; clear n0_ n1_; (try clear hb); (try clear hb2); (try clear hk); (try clear hi); (try clear ho0); obtain ⟨Ao12, co12, eo12⟩ := Kd.R_slice HO108.out; subst eo12; have p109 : 0 ≤ (a0 : Int) := of_decide_eq_true (by first | (with_reducible assumption) | assumption); have q109 : a0 < (t106.length : Int) := of_decide_eq_true (by first | (with_reducible assumption) | assumption); obtain ⟨ad109, e109, hx109_0⟩ := Kd.at_string (Kd.R_reads' HO108.out).2.2 a0 p109 q109; cases e109; replace p109 := eq_true p109; replace q109 := eq_true q109) | ((with_reducible refine gate_callee (f := 75) rfl ?_); refine goesL_ (some 22) rfl rfl Tryz.func75 (by kernel_rfl) rfl #[.string (rdOf ByteArray.empty t106 a0), .string (⟨#[32]⟩ : ByteArray)] rfl (by (try simp only [List.map_toArray, List.map_cons, List.map_nil]); first | done | rfl | (simp only [List.length_drop, List.length_take]; rfl)) ?_; (with_reducible refine (strings_Cut.calls (rdOf ByteArray.empty t106 a0) (⟨#[32]⟩ : ByteArray) t110 t111 t112 _ A10.out).mono ?_); rintro e w' ⟨rfl, ⟨nd, rfl⟩⟩; refine ⟨_, rfl, ?_⟩))
     go_ret2
     exact ⟨by first | rfl | (simp [errW_none, errW_some] <;> rfl) | (simp [*, errW_none, errW_some] <;> rfl), by repeat (first | (with_reducible first | exact HB.out | apply below_alloc | apply pw_below_drewN | apply below_drew1) | exact HB.out)⟩
    ·rw [if_neg c9] at H
     exact absurd H (by simp)
   ·rw [if_neg c8] at H
    exact absurd H (by simp)

end Go.Proofs.YtndgaeldndgioaaGreatDoor.QAll
end

section
/- script.line, walked by hand: an event's line, or none. -/
set_option linter.unusedVariables false
set_option linter.unusedSimpArgs false
namespace Go.Proofs.YtndgaeldndgioaaGreatDoor.QAll
open Go.RowKit Go.Proofs.YtndgaeldndgioaaGreatDoorW.PrintWords Go.Proofs.YtndgaeldndgioaaGreatDoorW.PrintLast Go.Proofs.YtndgaeldndgioaaGreatDoorW.PrintMore
open Go.Proofs.YtndgaeldndgioaaGreatDoor.Fl

/-- What the walks ask of an event: it is one that read may tell. -/
structure EvOk (e : Ev) : Prop where
  inr : EvIn e
  s : e.s.size ≤ 100000
  d : ∀ z ∈ e.d, 0 ≤ z ∧ z ≤ 255
  l : e.d.length ≤ 100000
  a : I64 e.a
  b : I64 e.b
  n : I64 e.n
  m : I64 e.m
/-- One word of an event, by its letter; and whether there is one. -/
def wordC (e : Ev) (c : Int) : Option (ByteArray × Bool) :=
  if c = 83 then some (⟨#[61]⟩ ++ escS e.s, decide ((e.s.size : Int) ≤ 300))
  else if c = 68 then some (⟨#[35]⟩ ++ hexD e.d, decide ((e.d.length : Int) ≤ 16))
  else if c = 88 then some (itoaB e.x, true)
  else if c = 89 then some (itoaB e.y, true)
  else if c = 65 then some (itoaB e.a, fitsB e.a)
  else if c = 66 then some (itoaB e.b, fitsB e.b)
  else if c = 78 then some (itoaB e.n, fitsB e.n)
  else if c = 77 then some (itoaB e.m, fitsB e.m)
  else none
theorem word_calls (e : Ev) (A : Option Addr) (cp : Nat) (c : Int) (r1 : ByteArray) (r2 : Bool) (w : World) (hE : EnvW w) (ho : EvOk e) (hd : (Kd.int .u8).C w A e.d.length e.d) (h : wordC e c = some (r1, r2)) :
    Calls Tryz.prog 73 #[evV e A cp, .int .i32 c] w fun r w' => r = .returned (.tuple #[.string r1, .bool r2]) ∧ Below w.heap.size w w' := by
  unfold wordC at h
  by_cases h1 : c = 83
  · rw [if_pos h1] at h
    obtain ⟨rfl, rfl⟩ := Prod.mk.inj (Option.some.inj h)
    subst h1
    exact word_S e A cp w hE ho.inr hd ho.s
  rw [if_neg h1] at h
  by_cases h2 : c = 68
  · rw [if_pos h2] at h
    obtain ⟨rfl, rfl⟩ := Prod.mk.inj (Option.some.inj h)
    subst h2
    exact word_D e A cp w hd ho.d ho.l
  rw [if_neg h2] at h
  by_cases h3 : c = 88
  · rw [if_pos h3] at h
    obtain ⟨rfl, rfl⟩ := Prod.mk.inj (Option.some.inj h)
    subst h3
    exact word_X e A cp w hE ho.inr hd
  rw [if_neg h3] at h
  by_cases h4 : c = 89
  · rw [if_pos h4] at h
    obtain ⟨rfl, rfl⟩ := Prod.mk.inj (Option.some.inj h)
    subst h4
    exact word_Y e A cp w hE ho.inr hd
  rw [if_neg h4] at h
  by_cases h5 : c = 65
  · rw [if_pos h5] at h
    obtain ⟨rfl, rfl⟩ := Prod.mk.inj (Option.some.inj h)
    subst h5
    exact word_A e A cp w hE ho.inr hd ho.a
  rw [if_neg h5] at h
  by_cases h6 : c = 66
  · rw [if_pos h6] at h
    obtain ⟨rfl, rfl⟩ := Prod.mk.inj (Option.some.inj h)
    subst h6
    exact word_B e A cp w hE ho.inr hd ho.b
  rw [if_neg h6] at h
  by_cases h7 : c = 78
  · rw [if_pos h7] at h
    obtain ⟨rfl, rfl⟩ := Prod.mk.inj (Option.some.inj h)
    subst h7
    exact word_N e A cp w hE ho.inr hd ho.n
  rw [if_neg h7] at h
  by_cases h8 : c = 77
  · rw [if_pos h8] at h
    obtain ⟨rfl, rfl⟩ := Prod.mk.inj (Option.some.inj h)
    subst h8
    exact word_M e A cp w hE ho.inr hd ho.m
  rw [if_neg h8] at h
  cases h
end Go.Proofs.YtndgaeldndgioaaGreatDoor.QAll
end

section
/- script.line, walked by hand: an event's line, or none. -/
set_option linter.unusedVariables false
set_option linter.unusedSimpArgs false
namespace Go.Proofs.YtndgaeldndgioaaGreatDoor.QAll
open Go.RowKit Go.Proofs.YtndgaeldndgioaaGreatDoorW.PrintWords Go.Proofs.YtndgaeldndgioaaGreatDoorW.PrintLast Go.Proofs.YtndgaeldndgioaaGreatDoorW.PrintMore
open Go.Proofs.YtndgaeldndgioaaGreatDoor.Fl

/-- The words by the letters, behind those that are there; some none: one isn't. -/
def lineL (e : Ev) : List UInt8 → List ByteArray → Option (Option (List ByteArray))
  | [], acc => some (some acc)
  | c :: cs, acc => (wordC e (c.toNat : Int)).bind fun p => if p.2 = true then lineL e cs (acc ++ [p.1]) else some none
def lineR (res : Option (List ByteArray)) : Option (ByteArray × Bool) := match res with
  | none => some (⟨#[]⟩, false)
  | some l => (strings_Join.f l ⟨#[32]⟩).map fun r => (r, true)
/-- Behind j letters: the words, the event's block, the iterator's, and that nothing older has turned. -/
def LZ (w : World) (gi : Nat) (cs : Array Value) (lt : ByteArray) (j : Nat) (W : World) (v : Value) (xs : List ByteArray) : Prop :=
  Kd.R Kd.string 9 W w.heap.size (fun i => i ≠ gi) v xs ∧ W.heap[w.heap.size]? = some (.cells cs 26 (0, 0)) ∧ W.heap[gi]? = some (.stringIter lt j) ∧ Below w.heap.size w W ∧ w.heap.size < gi
theorem lt_of_some {W : World} {i : Nat} {o : Obj} (h : W.heap[i]? = some o) : i < W.heap.size := (Array.getElem?_eq_some_iff.1 h).1
theorem LZ_below {w W W' : World} {gi : Nat} {cs : Array Value} {lt : ByteArray} {j : Nat} {v : Value} {xs : List ByteArray} (h : LZ w gi cs lt j W v xs) (hb : Below W.heap.size W W') : LZ w gi cs lt j W' v xs :=
  ⟨Kd.R_below h.1 hb, (hb.block _ (lt_of_some h.2.1)).trans h.2.1, (hb.block _ (lt_of_some h.2.2.1)).trans h.2.2.1, below_then h.2.2.2.1 h.2.2.2.1.size hb, h.2.2.2.2⟩
theorem LZ_append {w W w1 : World} {gi : Nat} {cs : Array Value} {lt : ByteArray} {j : Nat} {v v1 : Value} {xs ys : List ByteArray} (h : LZ w gi cs lt j W v xs) (hr : Kd.R Kd.string 9 w1 w.heap.size (fun i => i ≠ gi) v1 ys) (hb : Below w.heap.size w w1) (hg : W.grownBy w1 v.ownBlock) : LZ w gi cs lt j w1 v1 ys :=
  ⟨hr, (hg.block _ (lt_of_some h.2.1) (Kd.R_ne h.1 h.2.1 (by decide))).trans h.2.1, (hg.block _ (lt_of_some h.2.2.1) (fun e => h.1.1 gi e.symm rfl)).trans h.2.2.1, hb, h.2.2.2.2⟩
theorem LZ_next {w W : World} {gi : Nat} {cs : Array Value} {lt : ByteArray} {j : Nat} {v : Value} {xs : List ByteArray} (h : LZ w gi cs lt j W v xs) : LZ w gi cs lt (j + 1) (W.iterAt gi lt (j + 1)) v xs := by
  obtain ⟨h1, h2, h3, h4, h5⟩ := h
  exact ⟨Kd.R_step h1 (fun k hk _ => Lib.iterAt_other W gi k lt (j + 1) hk), (Lib.iterAt_other W gi _ lt (j + 1) (by omega)).trans h2, Lib.iterAt_heap W gi lt j (j + 1) h3, Lib.below_iterAt h4 (by omega) lt (j + 1), h5⟩
set_option maxHeartbeats 8000000 in
set_option maxRecDepth 100000 in
theorem line_core (e : Ev) (A : Option Addr) (c : Nat) (nm lt : ByteArray) (res : Option (List ByteArray)) (r1 : ByteArray) (r2 : Bool) (w : World) (hE : EnvW w) (ho : EvOk e) (hd : (Kd.int .u8).C w A e.d.length e.d)
    (hf : script_form.f e.k = some (nm, lt)) (hn : (nm.toList == []) = false) (hls : lt.size ≤ 1000) (hasc : ∀ (j : Nat) (h : j < lt.size), (lt[j]'h).toNat < 128) (hL : lineL e lt.data.toList [nm] = some res) (hR : lineR res = some (r1, r2)) :
    Calls Tryz.prog 48 #[evV e A c] w fun r w' => r = .returned (.tuple #[.string r1, .bool r2]) ∧ Below w.heap.size w w' := by
  have HO := Aside0.mk ho
  have HD := Aside0.mk hd
  have HF := Aside0.mk hf
  have HL := Aside0.mk hL
  have HR := Aside0.mk hR
  have HS := Aside0.mk hasc
  have HEV := Aside0.mk (rfl : evV e A c = evV e A c)
  clear ho hd hf hL hR hasc
  generalize hev : evV e A c = ev
  have HV := Aside0.mk hev
  clear HEV
  obtain ⟨k, a, b, n, m, s, x, y, d⟩ := e
  unfold evV at hev
  subst hev
  go_enter Tryz.func48, Tryz.ntmps48
  go_wp2_with (fail)
  (with_reducible refine (script_form.calls k nm lt _ HF.out).mono ?_)
  rintro e w1 ⟨rfl, hb1⟩
  have HB := Aside0.mk (below_step ((Below.refl w.heap.size w).alloc (Nat.le_refl _) (.cells #[.int .i64 k, .int .i64 a, .int .i64 b, .int .i64 n, .int .i64 m, .string s, .complex .f64 (fl x) (fl y), .slice A d.length c] 26 (0, 0))) hb1)
  have HX := Aside0.mk ((hb1.block w.heap.size (by simp)).trans (heap_alloc_new w (.cells #[.int .i64 k, .int .i64 a, .int .i64 b, .int .i64 n, .int .i64 m, .string s, .complex .f64 (fl x) (fl y), .slice A d.length c] 26 (0, 0))))
  have HZ := Aside0.mk (show w.heap.size < w1.heap.size from Nat.lt_of_lt_of_le (by simp) hb1.size)
  clear hb1
  go_wp2_with (fail)
  have HZ0 := Aside0.mk (show LZ w (w1.heap.size + 1) #[.int .i64 k, .int .i64 a, .int .i64 b, .int .i64 n, .int .i64 m, .string s, .complex .f64 (fl x) (fl y), .slice A d.length c] lt 0 ((w1.alloc (.cells #[.string nm] 9 (0, 0))).iter lt 0) (.slice (some ⟨w1.heap.size, 0, none⟩) 1 1) [nm] from ⟨by
      have ho := World.ownsRow_lit (base := w.heap.size) (e := 9) (size := 1) w1 #[.string nm] 1 (Nat.le_of_lt HZ.out) (by unfold maxLen; omega) rfl
      refine Kd.R_below (Kd.R_of_own (xs := [nm]) ho (fun k hk => ?_)) ((Below.refl _ _).alloc (Nat.le_refl _) _)
      have : k = w1.heap.size := by simpa [Value.ownBlock] using hk.symm
      omega, (Below.heap_alloc _ _ _ (by have := HZ.out; simp; omega)).trans ((Below.heap_alloc _ _ _ HZ.out).trans HX.out), by
      have := World.iter_heap (w1.alloc (.cells #[.string nm] 9 (0, 0))) lt 0
      rw [World.size_alloc] at this
      exact this, ((HB.out.alloc (Nat.le_of_lt HZ.out) _).alloc (by have := HZ.out; simp; omega) _), by have := HZ.out; omega⟩)
  have hsz1 := HZ.out
  generalize (w1.alloc (.cells #[.string nm] 9 (0, 0))).iter lt 0 = w2 at HZ0 ⊢
  generalize w1.heap.size + 1 = gi at HZ0 ⊢
  clear HB HX HZ
  go_loopw [6] (fun v6 wr => ∃ (j : Nat) (acc : List ByteArray), j ≤ lt.size ∧ acc.length = j + 1 ∧ Aside0 (lineL (⟨k, a, b, n, m, s, x, y, d⟩ : Ev) (lt.data.toList.drop j) acc = some res) ∧ Aside0 (LZ w gi #[.int .i64 k, .int .i64 a, .int .i64 b, .int .i64 n, .int .i64 m, .string s, .complex .f64 (fl x) (fl y), .slice A d.length c] lt j wr v6 acc)) (fun _ wr => lt.size - wr.iterPos gi)
  case atStart => exact ⟨0, [nm], Nat.zero_le _, rfl, HL, HZ0⟩
  case round =>
    obtain ⟨j, acc, hj, hacc, HLj, HZj⟩ := hrel
    clear HZ0
    by_cases hlt : j < lt.size
    · have hnx := fun (ty : TypeId) => Lib.run_next_ascii_at (P := Tryz.prog) wr gi lt j ty HZj.out.2.2.1 hlt (HS.out j hlt)
      have HZn := Aside0.mk (LZ_next HZj.out)
      obtain ⟨k0, k1, k2, k3, k4, k5, k6, k7⟩ := cells8 HZn.out.2.1
      have hdr : lt.data.toList.drop j = lt[j]'hlt :: lt.data.toList.drop (j + 1) := by
        rw [List.drop_eq_getElem_cons (by simpa using hlt)]
        rfl
      have hl := HLj.out
      rw [hdr, lineL] at hl
      obtain ⟨p, hp, hrest⟩ := Option.bind_eq_some_iff.1 hl
      have HRest := Aside0.mk hrest
      clear hl hrest hdr HLj
      have hw := word_calls (⟨k, a, b, n, m, s, x, y, d⟩ : Ev) A c ((lt[j]'hlt).toNat : Int) p.1 p.2 (wr.iterAt gi lt (j + 1)) (hE.below HZn.out.2.2.2.1) HO.out (Kd.C_below HD.out HZn.out.2.2.2.1) hp
      rw [HV.out] at hw
      have HW := Aside0.mk hw
      clear hw hp
      have hip : wr.iterPos gi = j := iterPos_of HZj.out.2.2.1
      clear HZj
      go_wp2_with (first | rw [hnx] | (go_at_call 73; fail))
      refine HW.out.mono ?_
      rintro e w4 ⟨rfl, hb4⟩
      have HZ4 := Aside0.mk (LZ_below HZn.out hb4)
      clear HZn hb4 HW hnx k0 k1 k2 k3 k4 k5 k6 k7
      cases hp2 : p.2 with
      | true =>
        have hre := HRest.out
        rw [hp2, if_pos rfl] at hre
        have HRe := Aside0.mk hre
        clear hre HRest
        go_wp2_with (at_builtin; refine Kd.R_append Kd.string (w0 := w) w.heap.size rfl (.tmp 34) (.tmp 36) 52 9 (.string ⟨#[]⟩) 16 rfl Tryz.underlying52 info9 rfl (by decide) (by omega) u6 acc p.1 [.string p.1] (fun i => i ≠ gi) (fun _ => False) rfl rfl rfl (fun _ hk => hk.elim) (fun i hi => by have := lt_of_some HZ4.out.2.2.1; omega) HZ4.out.1 HZ4.out.2.2.2.1 HZ4.out.2.2.2.1.size (by rw [hacc]; omega) ?_; intro v1 w5 ho hb hg hat; have HZ5 := Aside0.mk (LZ_append HZ4.out ho hb hg); clear HZ4 ho hb hg hat)
        go_roundw
        case rel => exact ⟨j + 1, acc ++ [p.1], by omega, by simp [hacc], HRe, HZ5⟩
        case measure =>
          have := iterPos_of HZ5.out.2.2.1
          omega
      | false =>
        have hre := HRest.out
        rw [hp2, if_neg (by decide)] at hre
        obtain rfl := Option.some.inj hre
        have hr := HR.out
        simp only [lineR, Option.some.injEq, Prod.mk.injEq] at hr
        obtain ⟨rfl, rfl⟩ := hr
        clear hre HRest
        go_wp2_with (fail)
        go_ret2
        exact ⟨rfl, HZ4.out.2.2.2.1⟩
    · obtain rfl : j = lt.size := by omega
      have hnx := fun (ty : TypeId) => Lib.run_next_end_at (P := Tryz.prog) wr gi lt lt.size ty HZj.out.2.2.1 hlt
      have hre := HLj.out
      rw [List.drop_of_length_le (by simp)] at hre
      simp only [lineL, Option.some.injEq] at hre
      subst hre
      have hr := HR.out
      simp only [lineR, Option.map_eq_some_iff, Prod.mk.injEq] at hr
      obtain ⟨rj, hrj, rfl, rfl⟩ := hr
      have HJ := Aside0.mk hrj
      clear hrj
      clear hacc
      obtain ⟨A6, c6, rfl, hc6, hC6⟩ := Kd.R_reads HZj.out.1
      have HC6 := Aside0.mk hC6
      clear hC6
      go_wp2_with (first | rw [hnx] | (go_at_call 30; fail))
      (with_reducible refine (strings_Join.calls A6 c6 acc ⟨#[32]⟩ rj _ HC6.out hc6 HJ.out).mono ?_)
      rintro e w4 ⟨rfl, hb4⟩
      have HZ4 := Aside0.mk (LZ_below HZj.out hb4)
      clear HZj hb4
      go_wp2_with (fail)
      go_ret2
      exact ⟨rfl, HZ4.out.2.2.2.1⟩
end Go.Proofs.YtndgaeldndgioaaGreatDoor.QAll
end

section
/- Walks, written by a program of this session (wip/pp): a Go function comes to what the Lean function beside it tells. -/
namespace Go.Proofs.YtndgaeldndgioaaGreatDoor.QAll
open Go.RowKit Go.Proofs.YtndgaeldndgioaaGreatDoorW.PrintWords Go.Proofs.YtndgaeldndgioaaGreatDoorW.PrintLast Go.Proofs.YtndgaeldndgioaaGreatDoorW.PrintMore
attribute [local go_sem] max2_int min2_int max_two min_two max_three min_three max_four min_four
set_option linter.unusedVariables false
set_option linter.unusedSimpArgs false

def squelchref30_Names.f  : Option (List ByteArray) := some (([(⟨#[]⟩ : ByteArray), (⟨#[75, 69, 89, 83]⟩ : ByteArray), (⟨#[75, 73, 83, 83]⟩ : ByteArray), (⟨#[82, 69, 65, 68]⟩ : ByteArray), (⟨#[84, 73, 67, 75]⟩ : ByteArray), (⟨#[76, 79, 83, 69]⟩ : ByteArray), (⟨#[83, 80, 79, 73, 76]⟩ : ByteArray), (⟨#[66, 76, 79, 67, 75]⟩ : ByteArray), (⟨#[79, 80, 69, 78]⟩ : ByteArray), (⟨#[83, 84, 65, 78, 68]⟩ : ByteArray), (⟨#[77, 79, 86, 69]⟩ : ByteArray), (⟨#[84, 85, 82, 78]⟩ : ByteArray)] : List ByteArray))
set_option maxHeartbeats 8000000 in
set_option maxRecDepth 100000 in
theorem squelchref30_Names.calls  (r : List ByteArray) (w : World) (h : squelchref30_Names.f  = some r) :
  Calls Tryz.prog 18 #[] w fun e w' => ∃ v0_ : Value, e = .returned (v0_) ∧ Kd.R Kd.string 9 w' w.heap.size (fun _ => True) v0_ r ∧ Below w.heap.size w w' := by
 have HB := Aside0.mk (Below.refl w.heap.size w)
 have H : (some (([(⟨#[]⟩ : ByteArray), (⟨#[75, 69, 89, 83]⟩ : ByteArray), (⟨#[75, 73, 83, 83]⟩ : ByteArray), (⟨#[82, 69, 65, 68]⟩ : ByteArray), (⟨#[84, 73, 67, 75]⟩ : ByteArray), (⟨#[76, 79, 83, 69]⟩ : ByteArray), (⟨#[83, 80, 79, 73, 76]⟩ : ByteArray), (⟨#[66, 76, 79, 67, 75]⟩ : ByteArray), (⟨#[79, 80, 69, 78]⟩ : ByteArray), (⟨#[83, 84, 65, 78, 68]⟩ : ByteArray), (⟨#[77, 79, 86, 69]⟩ : ByteArray), (⟨#[84, 85, 82, 78]⟩ : ByteArray)] : List ByteArray))) = some r := h
 clear h
 obtain ⟨y173, hy173⟩ : ∃ y_ : List ByteArray, y_ = (([(⟨#[]⟩ : ByteArray), (⟨#[75, 69, 89, 83]⟩ : ByteArray), (⟨#[75, 73, 83, 83]⟩ : ByteArray), (⟨#[82, 69, 65, 68]⟩ : ByteArray), (⟨#[84, 73, 67, 75]⟩ : ByteArray), (⟨#[76, 79, 83, 69]⟩ : ByteArray), (⟨#[83, 80, 79, 73, 76]⟩ : ByteArray), (⟨#[66, 76, 79, 67, 75]⟩ : ByteArray), (⟨#[79, 80, 69, 78]⟩ : ByteArray), (⟨#[83, 84, 65, 78, 68]⟩ : ByteArray), (⟨#[77, 79, 86, 69]⟩ : ByteArray), (⟨#[84, 85, 82, 78]⟩ : ByteArray)] : List ByteArray)) := ⟨_, rfl⟩
 replace H : (some y173) = some r := by first | (rw [hy173]; with_reducible exact H) | (have H2_ := (Option.bind_some _ _).symm.trans H; rw [hy173]; with_reducible exact H2_) | (have H2_ := (Option.bind_some _ _).symm.trans H; with_reducible exact H2_) | with_reducible exact H | (rw [hy173]; exact H) | exact H
 have Ny173 := Aside0.mk hy173
 clear hy173
 obtain rfl := Option.some.inj H
 go_enter Tryz.func18, Tryz.ntmps18
 go_wp2_with (first | ((with_reducible refine gate_dst (N := 1) rfl ?_); refine Kd.R_lit Kd.string _ 9 ?hg (N := 1) ?hd (xs := ([(⟨#[]⟩ : ByteArray), (⟨#[75, 69, 89, 83]⟩ : ByteArray), (⟨#[75, 73, 83, 83]⟩ : ByteArray), (⟨#[82, 69, 65, 68]⟩ : ByteArray), (⟨#[84, 73, 67, 75]⟩ : ByteArray), (⟨#[76, 79, 83, 69]⟩ : ByteArray), (⟨#[83, 80, 79, 73, 76]⟩ : ByteArray), (⟨#[66, 76, 79, 67, 75]⟩ : ByteArray), (⟨#[79, 80, 69, 78]⟩ : ByteArray), (⟨#[83, 84, 65, 78, 68]⟩ : ByteArray), (⟨#[77, 79, 86, 69]⟩ : ByteArray), (⟨#[84, 85, 82, 78]⟩ : ByteArray)] : List ByteArray)) (inner := [.string (⟨#[]⟩ : ByteArray), .string (⟨#[75, 69, 89, 83]⟩ : ByteArray), .string (⟨#[75, 73, 83, 83]⟩ : ByteArray), .string (⟨#[82, 69, 65, 68]⟩ : ByteArray), .string (⟨#[84, 73, 67, 75]⟩ : ByteArray), .string (⟨#[76, 79, 83, 69]⟩ : ByteArray), .string (⟨#[83, 80, 79, 73, 76]⟩ : ByteArray), .string (⟨#[66, 76, 79, 67, 75]⟩ : ByteArray), .string (⟨#[79, 80, 69, 78]⟩ : ByteArray), .string (⟨#[83, 84, 65, 78, 68]⟩ : ByteArray), .string (⟨#[77, 79, 86, 69]⟩ : ByteArray), .string (⟨#[84, 85, 82, 78]⟩ : ByteArray)]) (ok := fun _ => True) (okp := fun _ => True) ?hr ?hp (fun _ hk => hk) trivial (Below.refl _ _) (Nat.le_refl _) (by simp) ?_; (case hd => rfl); (case hg => rfl); (case hr => first | (go_simp; done) | (go_simp; rfl)); (case hp => exact (Reps.one (show Kd.M Kd.string _ _ _ (⟨#[]⟩ : ByteArray) [.string (⟨#[]⟩ : ByteArray)] from rfl) (Reps.one (show Kd.M Kd.string _ _ _ (⟨#[75, 69, 89, 83]⟩ : ByteArray) [.string (⟨#[75, 69, 89, 83]⟩ : ByteArray)] from rfl) (Reps.one (show Kd.M Kd.string _ _ _ (⟨#[75, 73, 83, 83]⟩ : ByteArray) [.string (⟨#[75, 73, 83, 83]⟩ : ByteArray)] from rfl) (Reps.one (show Kd.M Kd.string _ _ _ (⟨#[82, 69, 65, 68]⟩ : ByteArray) [.string (⟨#[82, 69, 65, 68]⟩ : ByteArray)] from rfl) (Reps.one (show Kd.M Kd.string _ _ _ (⟨#[84, 73, 67, 75]⟩ : ByteArray) [.string (⟨#[84, 73, 67, 75]⟩ : ByteArray)] from rfl) (Reps.one (show Kd.M Kd.string _ _ _ (⟨#[76, 79, 83, 69]⟩ : ByteArray) [.string (⟨#[76, 79, 83, 69]⟩ : ByteArray)] from rfl) (Reps.one (show Kd.M Kd.string _ _ _ (⟨#[83, 80, 79, 73, 76]⟩ : ByteArray) [.string (⟨#[83, 80, 79, 73, 76]⟩ : ByteArray)] from rfl) (Reps.one (show Kd.M Kd.string _ _ _ (⟨#[66, 76, 79, 67, 75]⟩ : ByteArray) [.string (⟨#[66, 76, 79, 67, 75]⟩ : ByteArray)] from rfl) (Reps.one (show Kd.M Kd.string _ _ _ (⟨#[79, 80, 69, 78]⟩ : ByteArray) [.string (⟨#[79, 80, 69, 78]⟩ : ByteArray)] from rfl) (Reps.one (show Kd.M Kd.string _ _ _ (⟨#[83, 84, 65, 78, 68]⟩ : ByteArray) [.string (⟨#[83, 84, 65, 78, 68]⟩ : ByteArray)] from rfl) (Reps.one (show Kd.M Kd.string _ _ _ (⟨#[77, 79, 86, 69]⟩ : ByteArray) [.string (⟨#[77, 79, 86, 69]⟩ : ByteArray)] from rfl) (Reps.one (show Kd.M Kd.string _ _ _ (⟨#[84, 85, 82, 78]⟩ : ByteArray) [.string (⟨#[84, 85, 82, 78]⟩ : ByteArray)] from rfl) (Reps.none _ _)))))))))))))); intro v174 w1 ho2 hb hg_ hnew_; clear hg_ hnew_; (first | rw [← Ny173.out] at ho2 | (simp only [Int.reduceToNat] at ho2; rw [← Ny173.out] at ho2)); have n0_ := Aside0.mk (Kd.R_lower ho2 (below_size (by repeat (first | (with_reducible first | exact HB.out | apply below_alloc | apply pw_below_drewN | apply below_drew1) | exact HB.out)))); have n1_ := Aside0.mk (below_step (by repeat (first | (with_reducible first | exact HB.out | apply below_alloc | apply pw_below_drewN | apply below_drew1) | exact HB.out)) hb); clear HB; have HO175 := n0_; have HB := n1_; clear n0_ n1_; clear hb ho2))
 go_ret
 exact ⟨_, by first | rfl | (simp [errW_none, errW_some] <;> rfl) | (simp [*, errW_none, errW_some] <;> rfl), by (with_reducible repeat (first | apply Kd.R_alloc | apply Kd.R_drewN | apply Kd.R_drew)); exact HO175.out, by repeat (first | (with_reducible first | exact HB.out | apply below_alloc | apply pw_below_drewN | apply below_drew1) | exact HB.out)⟩

end Go.Proofs.YtndgaeldndgioaaGreatDoor.QAll
end

section
/- Walks, written by a program of this session (wip/pp): a Go function comes to what the Lean function beside it tells. -/
namespace Go.Proofs.YtndgaeldndgioaaGreatDoor.QAll
open Go.RowKit Go.Proofs.YtndgaeldndgioaaGreatDoorW.PrintWords Go.Proofs.YtndgaeldndgioaaGreatDoorW.PrintLast Go.Proofs.YtndgaeldndgioaaGreatDoorW.PrintMore
attribute [local go_sem] max2_int min2_int max_two min_two max_three min_three max_four min_four
set_option linter.unusedVariables false
set_option linter.unusedSimpArgs false

def squelchref26_digits.l0 : Nat → Int → ByteArray → Option (ByteArray)
 | 0, _, _ => none
 | k + 1, x0, x3 => if x3.toList = ([] : List UInt8) then ((some (([(IntKind.u64.wrap (48 + (Int.tmod x0 10))) % 256] : List Int) : List Int)).bind fun y194 => (if (strOfNums y194).size + x3.size ≤ 9223372036854775807 then (squelchref26_digits.l0 k (IntKind.u64.wrap (Int.tdiv x0 10)) ((strOfNums y194) ++ x3)) else (none))) else (if x0 > 0 then ((some (([(IntKind.u64.wrap (48 + (Int.tmod x0 10))) % 256] : List Int) : List Int)).bind fun y197 => (if (strOfNums y197).size + x3.size ≤ 9223372036854775807 then (squelchref26_digits.l0 k (IntKind.u64.wrap (Int.tdiv x0 10)) ((strOfNums y197) ++ x3)) else (none))) else (some x3))
def squelchref26_digits.f (k : Nat) (a0 : Int) : Option (ByteArray) := squelchref26_digits.l0 k a0 (⟨#[]⟩ : ByteArray)
theorem squelchref26_digits.mono_l : ∀ k, (∀ y0 y1, LeO (squelchref26_digits.l0 k y0 y1) (squelchref26_digits.l0 (k + 1) y0 y1))
 | 0 => fun _ _ r h => by simp [squelchref26_digits.l0] at h
 | k + 1 => by
  have ih0 := squelchref26_digits.mono_l k
  ·intro y0 y1
   unfold squelchref26_digits.l0
   repeat' first
   | (with_reducible exact ih0 _ _)
   | (with_reducible exact LeO.refl _)
   | (with_reducible exact LeO.none _)
   | (with_reducible refine LeO.ite ?_ ?_)
   | (with_reducible refine LeO.bind ?_ (fun _ => ?_))
   | exact ih0 _ _
   | exact LeO.none _
   | refine LeO.ite ?_ ?_
   | refine LeO.bind ?_ (fun _ => ?_)
theorem squelchref26_digits.mono : ∀ a0 k, LeO (squelchref26_digits.f k a0) (squelchref26_digits.f (k + 1) a0) := by
 intro a0 k
 have ih0 := squelchref26_digits.mono_l k
 unfold squelchref26_digits.f
 repeat' first
   | (with_reducible exact ih0 _ _)
   | (with_reducible exact LeO.refl _)
   | (with_reducible exact LeO.none _)
   | (with_reducible refine LeO.ite ?_ ?_)
   | (with_reducible refine LeO.bind ?_ (fun _ => ?_))
   | exact ih0 _ _
   | exact LeO.none _
   | refine LeO.ite ?_ ?_
   | refine LeO.bind ?_ (fun _ => ?_)
set_option maxHeartbeats 8000000 in
set_option maxRecDepth 100000 in
theorem squelchref26_digits.calls (k : Nat) (a0 : Int) (r : ByteArray) (w : World) (h : squelchref26_digits.f k a0 = some r) :
  Calls Tryz.prog 94 #[.int .u64 a0] w fun e w' => e = .returned (.string r) ∧ Below w.heap.size w w' := by
 have HB := Aside0.mk (Below.refl w.heap.size w)
 have H : (squelchref26_digits.l0 k a0 (⟨#[]⟩ : ByteArray)) = some r := h
 clear h
 have H' := Aside0.mk H
 clear H
 go_enter Tryz.func94, Tryz.ntmps94
 go_wp2
 go_loopg [0, 3] k (fun kq v0 v3 w' => ∃ (x0_1 : Int) (x3_1 : ByteArray), v0 = .int .u64 x0_1 ∧ v3 = .string x3_1 ∧ Aside0 (squelchref26_digits.l0 kq x0_1 x3_1 = some r) ∧ Aside0 (kq ≤ k) ∧ Aside0 (Below w.heap.size w w'))
 case atStart => exact ⟨(a0), ((⟨#[]⟩ : ByteArray)), (by first | rfl | (simp; done) | (simp [*]; done) | (simp; exact (fun l : List UInt8 => (by cases l <;> rfl : l.isEmpty = !(l != []))) _)), (by first | rfl | (simp; done) | (simp [*]; done) | (simp; exact (fun l : List UInt8 => (by cases l <;> rfl : l.isEmpty = !(l != []))) _)), H', ⟨Nat.le_refl _⟩, ⟨by repeat (first | (with_reducible first | exact HB.out | apply below_alloc | apply pw_below_drewN | apply below_drew1) | exact HB.out)⟩⟩
 case round =>
  clear H'
  obtain ⟨x0_1, x3_1, rfl, rfl, HA, HK1, HB⟩ := hrel
  cases gk with
  | zero => exact absurd HA.out (by simp [squelchref26_digits.l0])
  | succ k1 =>
   have H := HA.out
   clear HA
   simp only [squelchref26_digits.l0] at H
   by_cases c2 : x3_1.toList = ([] : List UInt8)
   ·rw [if_pos c2] at H
    have c2b0 : (x3_1.toList == ([] : List UInt8)) = true := beq_iff_eq.mpr c2
    (try (have c2b0e : (x3_1.toList.isEmpty) = true := by simpa using c2b0))
    have c2b1 : (x3_1.toList != ([] : List UInt8)) = false := bne_eq_false_iff_eq.mpr c2
    clear c2
    obtain ⟨y194, hy194⟩ : ∃ y_ : List Int, y_ = (([(IntKind.u64.wrap (48 + (Int.tmod x0_1 10))) % 256] : List Int)) := ⟨_, rfl⟩
    replace H : (if (strOfNums y194).size + x3_1.size ≤ 9223372036854775807 then (squelchref26_digits.l0 k1 (IntKind.u64.wrap (Int.tdiv x0_1 10)) ((strOfNums y194) ++ x3_1)) else (none)) = some r := by first | (rw [hy194]; with_reducible exact H) | (have H2_ := (Option.bind_some _ _).symm.trans H; rw [hy194]; with_reducible exact H2_) | (have H2_ := (Option.bind_some _ _).symm.trans H; with_reducible exact H2_) | with_reducible exact H | (rw [hy194]; exact H) | exact H
    have Ny194 := Aside0.mk hy194
    clear hy194
    by_cases c3 : (strOfNums y194).size + x3_1.size ≤ 9223372036854775807
    ·rw [if_pos c3] at H
     have c3b0 := eq_true c3
     have c3b1 : decide ((strOfNums y194).size + x3_1.size ≤ 9223372036854775807) = true := decide_eq_true c3
     try have c3b2 : (9223372036854775807 < (strOfNums y194).size + x3_1.size) = False := eq_false (Nat.not_lt.2 c3)
     have H' := Aside0.mk H
     clear H
     go_wp2_with (first | ((with_reducible refine gate_dst (N := 14) rfl ?_); refine Kd.R_lit (Kd.int .u8) _ 5 ?hg (N := 14) ?hd (xs := ([(IntKind.u64.wrap (48 + (Int.tmod x0_1 10))) % 256] : List Int)) (inner := [.int .u8 ((IntKind.u64.wrap (48 + (Int.tmod x0_1 10))) % 256)]) (ok := fun _ => True) (okp := fun _ => True) ?hr ?hp (fun _ hk => hk) trivial (Below.refl _ _) (Nat.le_refl _) (by simp) ?_; (case hd => rfl); (case hg => rfl); (case hr => first | (go_simp; done) | (go_simp; rfl)); (case hp => exact (Reps.one (show Kd.M (Kd.int .u8) _ _ _ ((IntKind.u64.wrap (48 + (Int.tmod x0_1 10))) % 256) [.int .u8 ((IntKind.u64.wrap (48 + (Int.tmod x0_1 10))) % 256)] from rfl) (Reps.none _ _))); intro v195 w4 ho5 hb hg_ hnew_; clear hg_ hnew_; (first | rw [← Ny194.out] at ho5 | (simp only [Int.reduceToNat] at ho5; rw [← Ny194.out] at ho5)); have n0_ := Aside0.mk (Kd.R_lower ho5 (below_size (by repeat (first | (with_reducible first | exact HB.out | apply below_alloc | apply pw_below_drewN | apply below_drew1) | exact HB.out)))); have n1_ := Aside0.mk (below_step (by repeat (first | (with_reducible first | exact HB.out | apply below_alloc | apply pw_below_drewN | apply below_drew1) | exact HB.out)) hb); clear HB; have HO196 := n0_; have HB := n1_; clear n0_ n1_; clear hb ho5; have hcv6 := own_string (P := Tryz.prog) Tryz.underlying24 Tryz.underlying5 Tryz.underlying9 (Kd.own_of_R HO196.out)))
     go_roundg k1
     case measure => have := HK1.out; omega
     case rel => exact ⟨(IntKind.u64.wrap (Int.tdiv x0_1 10)), ((strOfNums y194) ++ x3_1), (by first | rfl | (simp; done) | (simp [*]; done) | (simp; exact (fun l : List UInt8 => (by cases l <;> rfl : l.isEmpty = !(l != []))) _)), (by first | rfl | (simp; done) | (simp [*]; done) | (simp; exact (fun l : List UInt8 => (by cases l <;> rfl : l.isEmpty = !(l != []))) _)), H', ⟨by have := HK1.out; omega⟩, ⟨by repeat (first | (with_reducible first | exact HB.out | apply below_alloc | apply pw_below_drewN | apply below_drew1) | exact HB.out)⟩⟩
    ·rw [if_neg c3] at H
     exact absurd H (by simp)
   ·rw [if_neg c2] at H
    have c2b0 : (x3_1.toList == ([] : List UInt8)) = false := beq_eq_false_iff_ne.mpr c2
    (try (have c2b0e : (x3_1.toList.isEmpty) = false := by simpa using c2b0))
    have c2b1 : (x3_1.toList != ([] : List UInt8)) = true := bne_iff_ne.mpr c2
    by_cases c7 : x0_1 > 0
    ·rw [if_pos c7] at H
     have c7b0 : decide (0 < x0_1) = true := decide_eq_true c7
     clear c7
     obtain ⟨y197, hy197⟩ : ∃ y_ : List Int, y_ = (([(IntKind.u64.wrap (48 + (Int.tmod x0_1 10))) % 256] : List Int)) := ⟨_, rfl⟩
     replace H : (if (strOfNums y197).size + x3_1.size ≤ 9223372036854775807 then (squelchref26_digits.l0 k1 (IntKind.u64.wrap (Int.tdiv x0_1 10)) ((strOfNums y197) ++ x3_1)) else (none)) = some r := by first | (rw [hy197]; with_reducible exact H) | (have H2_ := (Option.bind_some _ _).symm.trans H; rw [hy197]; with_reducible exact H2_) | (have H2_ := (Option.bind_some _ _).symm.trans H; with_reducible exact H2_) | with_reducible exact H | (rw [hy197]; exact H) | exact H
     have Ny197 := Aside0.mk hy197
     clear hy197
     by_cases c8 : (strOfNums y197).size + x3_1.size ≤ 9223372036854775807
     ·rw [if_pos c8] at H
      have c8b0 := eq_true c8
      have c8b1 : decide ((strOfNums y197).size + x3_1.size ≤ 9223372036854775807) = true := decide_eq_true c8
      try have c8b2 : (9223372036854775807 < (strOfNums y197).size + x3_1.size) = False := eq_false (Nat.not_lt.2 c8)
      have H' := Aside0.mk H
      clear H
      go_wp2_with (first | ((with_reducible refine gate_dst (N := 14) rfl ?_); refine Kd.R_lit (Kd.int .u8) _ 5 ?hg (N := 14) ?hd (xs := ([(IntKind.u64.wrap (48 + (Int.tmod x0_1 10))) % 256] : List Int)) (inner := [.int .u8 ((IntKind.u64.wrap (48 + (Int.tmod x0_1 10))) % 256)]) (ok := fun _ => True) (okp := fun _ => True) ?hr ?hp (fun _ hk => hk) trivial (Below.refl _ _) (Nat.le_refl _) (by simp) ?_; (case hd => rfl); (case hg => rfl); (case hr => first | (go_simp; done) | (go_simp; rfl)); (case hp => exact (Reps.one (show Kd.M (Kd.int .u8) _ _ _ ((IntKind.u64.wrap (48 + (Int.tmod x0_1 10))) % 256) [.int .u8 ((IntKind.u64.wrap (48 + (Int.tmod x0_1 10))) % 256)] from rfl) (Reps.none _ _))); intro v198 w9 ho10 hb hg_ hnew_; clear hg_ hnew_; (first | rw [← Ny197.out] at ho10 | (simp only [Int.reduceToNat] at ho10; rw [← Ny197.out] at ho10)); have n0_ := Aside0.mk (Kd.R_lower ho10 (below_size (by repeat (first | (with_reducible first | exact HB.out | apply below_alloc | apply pw_below_drewN | apply below_drew1) | exact HB.out)))); have n1_ := Aside0.mk (below_step (by repeat (first | (with_reducible first | exact HB.out | apply below_alloc | apply pw_below_drewN | apply below_drew1) | exact HB.out)) hb); clear HB; have HO199 := n0_; have HB := n1_; clear n0_ n1_; clear hb ho10; have hcv11 := own_string (P := Tryz.prog) Tryz.underlying24 Tryz.underlying5 Tryz.underlying9 (Kd.own_of_R HO199.out)))
      go_roundg k1
      case measure => have := HK1.out; omega
      case rel => exact ⟨(IntKind.u64.wrap (Int.tdiv x0_1 10)), ((strOfNums y197) ++ x3_1), (by first | rfl | (simp; done) | (simp [*]; done) | (simp; exact (fun l : List UInt8 => (by cases l <;> rfl : l.isEmpty = !(l != []))) _)), (by first | rfl | (simp; done) | (simp [*]; done) | (simp; exact (fun l : List UInt8 => (by cases l <;> rfl : l.isEmpty = !(l != []))) _)), H', ⟨by have := HK1.out; omega⟩, ⟨by repeat (first | (with_reducible first | exact HB.out | apply below_alloc | apply pw_below_drewN | apply below_drew1) | exact HB.out)⟩⟩
     ·rw [if_neg c8] at H
      exact absurd H (by simp)
    ·rw [if_neg c7] at H
     have c7b0 : decide (0 < x0_1) = false := decide_eq_false c7
     clear c7
     obtain rfl := Option.some.inj H
     go_wp2
     go_ret
     exact ⟨by first | rfl | (simp [errW_none, errW_some] <;> rfl) | (simp [*, errW_none, errW_some] <;> rfl), by repeat (first | (with_reducible first | exact HB.out | apply below_alloc | apply pw_below_drewN | apply below_drew1) | exact HB.out)⟩

end Go.Proofs.YtndgaeldndgioaaGreatDoor.QAll
end

section
/- Walks, written by a program of this session (wip/pp): a Go function comes to what the Lean function beside it tells. -/
namespace Go.Proofs.YtndgaeldndgioaaGreatDoor.QAll
open Go.RowKit Go.Proofs.YtndgaeldndgioaaGreatDoorW.PrintWords Go.Proofs.YtndgaeldndgioaaGreatDoorW.PrintLast Go.Proofs.YtndgaeldndgioaaGreatDoorW.PrintMore
attribute [local go_sem] max2_int min2_int max_two min_two max_three min_three max_four min_four
set_option linter.unusedVariables false
set_option linter.unusedSimpArgs false

def squelchref26_Digits.f (k : Nat) (a0 : Int) : Option (ByteArray) := if a0 < 0 then ((squelchref26_digits.f k (IntKind.u64.wrap (-(IntKind.u64.wrap (a0))))).bind fun t200 => (if 1 + t200.size ≤ 9223372036854775807 then (some ((⟨#[45]⟩ : ByteArray) ++ t200)) else (none))) else ((squelchref26_digits.f k (IntKind.u64.wrap (a0))).bind fun t201 => (some t201))
theorem squelchref26_Digits.mono : ∀ a0 k, LeO (squelchref26_Digits.f k a0) (squelchref26_Digits.f (k + 1) a0) := by
 intro a0 k
 unfold squelchref26_Digits.f
 repeat' first
   | (with_reducible exact squelchref26_digits.mono _ _)
   | (with_reducible exact LeO.refl _)
   | (with_reducible exact LeO.none _)
   | (with_reducible refine LeO.ite ?_ ?_)
   | (with_reducible refine LeO.bind ?_ (fun _ => ?_))
   | exact squelchref26_digits.mono _ _
   | exact LeO.none _
   | refine LeO.ite ?_ ?_
   | refine LeO.bind ?_ (fun _ => ?_)
set_option maxHeartbeats 8000000 in
set_option maxRecDepth 100000 in
theorem squelchref26_Digits.calls (k : Nat) (a0 : Int) (r : ByteArray) (w : World) (h : squelchref26_Digits.f k a0 = some r) :
  Calls Tryz.prog 70 #[.int .i64 a0] w fun e w' => e = .returned (.string r) ∧ Below w.heap.size w w' := by
 have HB := Aside0.mk (Below.refl w.heap.size w)
 have H : (if a0 < 0 then ((squelchref26_digits.f k (IntKind.u64.wrap (-(IntKind.u64.wrap (a0))))).bind fun t200 => (if 1 + t200.size ≤ 9223372036854775807 then (some ((⟨#[45]⟩ : ByteArray) ++ t200)) else (none))) else ((squelchref26_digits.f k (IntKind.u64.wrap (a0))).bind fun t201 => (some t201))) = some r := h
 clear h
 by_cases c2 : a0 < 0
 ·rw [if_pos c2] at H
  have c2b0 : decide (a0 < 0) = true := decide_eq_true c2
  clear c2
  replace H := Option.bind_eq_some_iff.mp H
  obtain ⟨t200, A30, H⟩ := H
  replace H : (if 1 + t200.size ≤ 9223372036854775807 then (some ((⟨#[45]⟩ : ByteArray) ++ t200)) else (none)) = some r := H
  have A3 := Aside0.mk A30
  clear A30
  by_cases c4 : 1 + t200.size ≤ 9223372036854775807
  ·rw [if_pos c4] at H
   have c4b0 := eq_true c4
   have c4b1 : decide (1 + t200.size ≤ 9223372036854775807) = true := decide_eq_true c4
   try have c4b2 : (9223372036854775807 < 1 + t200.size) = False := eq_false (Nat.not_lt.2 c4)
   obtain rfl := Option.some.inj H
   go_enter Tryz.func70, Tryz.ntmps70
   go_wp2_with (first | ((with_reducible refine gate_callee (f := 94) rfl ?_); refine goesL_ (some 10) rfl rfl Tryz.func94 (by kernel_rfl) rfl #[.int .u64 (IntKind.u64.wrap (-(IntKind.u64.wrap (a0))))] rfl (by (try simp only [List.map_toArray, List.map_cons, List.map_nil]); first | done | rfl | (simp only [List.length_drop, List.length_take]; rfl)) ?_; (with_reducible refine (squelchref26_digits.calls k (IntKind.u64.wrap (-(IntKind.u64.wrap (a0)))) t200 _ A3.out).mono ?_); rintro e w5 ⟨rfl, hb⟩; refine ⟨_, rfl, ?_⟩; have n0_ := Aside0.mk (below_step (by repeat (first | (with_reducible first | exact HB.out | apply below_alloc | apply pw_below_drewN | apply below_drew1) | exact HB.out)) hb); clear HB; have HB := n0_; clear n0_; (try clear hb); (try clear hb2); (try clear hk); (try clear hi)))
   go_ret
   exact ⟨by first | rfl | (simp [errW_none, errW_some] <;> rfl) | (simp [*, errW_none, errW_some] <;> rfl), by repeat (first | (with_reducible first | exact HB.out | apply below_alloc | apply pw_below_drewN | apply below_drew1) | exact HB.out)⟩
  ·rw [if_neg c4] at H
   exact absurd H (by simp)
 ·rw [if_neg c2] at H
  have c2b0 : decide (a0 < 0) = false := decide_eq_false c2
  clear c2
  replace H := Option.bind_eq_some_iff.mp H
  obtain ⟨t201, A60, H⟩ := H
  replace H : (some t201) = some r := H
  have A6 := Aside0.mk A60
  clear A60
  obtain rfl := Option.some.inj H
  go_enter Tryz.func70, Tryz.ntmps70
  go_wp2_with (first | ((with_reducible refine gate_callee (f := 94) rfl ?_); refine goesL_ (some 14) rfl rfl Tryz.func94 (by kernel_rfl) rfl #[.int .u64 (IntKind.u64.wrap (a0))] rfl (by (try simp only [List.map_toArray, List.map_cons, List.map_nil]); first | done | rfl | (simp only [List.length_drop, List.length_take]; rfl)) ?_; (with_reducible refine (squelchref26_digits.calls k (IntKind.u64.wrap (a0)) t201 _ A6.out).mono ?_); rintro e w7 ⟨rfl, hb⟩; refine ⟨_, rfl, ?_⟩; have n0_ := Aside0.mk (below_step (by repeat (first | (with_reducible first | exact HB.out | apply below_alloc | apply pw_below_drewN | apply below_drew1) | exact HB.out)) hb); clear HB; have HB := n0_; clear n0_; (try clear hb); (try clear hb2); (try clear hk); (try clear hi)))
  go_ret
  exact ⟨by first | rfl | (simp [errW_none, errW_some] <;> rfl) | (simp [*, errW_none, errW_some] <;> rfl), by repeat (first | (with_reducible first | exact HB.out | apply below_alloc | apply pw_below_drewN | apply below_drew1) | exact HB.out)⟩

end Go.Proofs.YtndgaeldndgioaaGreatDoor.QAll
end

section
/- Walks, written by a program of this session (wip/pp): a Go function comes to what the Lean function beside it tells. -/
namespace Go.Proofs.YtndgaeldndgioaaGreatDoor.QAll
open Go.RowKit Go.Proofs.YtndgaeldndgioaaGreatDoorW.PrintWords Go.Proofs.YtndgaeldndgioaaGreatDoorW.PrintLast Go.Proofs.YtndgaeldndgioaaGreatDoorW.PrintMore
attribute [local go_sem] max2_int min2_int max_two min_two max_three min_three max_four min_four
set_option linter.unusedVariables false
set_option linter.unusedSimpArgs false

def squelchref30_num.f (k : Nat) (a0 : Int) : Option (ByteArray) := (squelchref26_Digits.f k a0).bind fun t202 => (if 1 + t202.size ≤ 9223372036854775807 then (some ((⟨#[32]⟩ : ByteArray) ++ t202)) else (none))
set_option maxHeartbeats 8000000 in
set_option maxRecDepth 100000 in
theorem squelchref30_num.calls (k : Nat) (a0 : Int) (r : ByteArray) (w : World) (h : squelchref30_num.f k a0 = some r) :
  Calls Tryz.prog 44 #[.int .i64 a0] w fun e w' => e = .returned (.string r) ∧ Below w.heap.size w w' := by
 have HB := Aside0.mk (Below.refl w.heap.size w)
 have H : ((squelchref26_Digits.f k a0).bind fun t202 => (if 1 + t202.size ≤ 9223372036854775807 then (some ((⟨#[32]⟩ : ByteArray) ++ t202)) else (none))) = some r := h
 clear h
 replace H := Option.bind_eq_some_iff.mp H
 obtain ⟨t202, A20, H⟩ := H
 replace H : (if 1 + t202.size ≤ 9223372036854775807 then (some ((⟨#[32]⟩ : ByteArray) ++ t202)) else (none)) = some r := H
 have A2 := Aside0.mk A20
 clear A20
 by_cases c3 : 1 + t202.size ≤ 9223372036854775807
 ·rw [if_pos c3] at H
  have c3b0 := eq_true c3
  have c3b1 : decide (1 + t202.size ≤ 9223372036854775807) = true := decide_eq_true c3
  try have c3b2 : (9223372036854775807 < 1 + t202.size) = False := eq_false (Nat.not_lt.2 c3)
  obtain rfl := Option.some.inj H
  go_enter Tryz.func44, Tryz.ntmps44
  go_wp2_with (first | ((with_reducible refine gate_callee (f := 70) rfl ?_); refine goesL_ (some 4) rfl rfl Tryz.func70 (by kernel_rfl) rfl #[.int .i64 a0] rfl (by (try simp only [List.map_toArray, List.map_cons, List.map_nil]); first | done | rfl | (simp only [List.length_drop, List.length_take]; rfl)) ?_; (with_reducible refine (squelchref26_Digits.calls k a0 t202 _ A2.out).mono ?_); rintro e w4 ⟨rfl, hb⟩; refine ⟨_, rfl, ?_⟩; have n0_ := Aside0.mk (below_step (by repeat (first | (with_reducible first | exact HB.out | apply below_alloc | apply pw_below_drewN | apply below_drew1) | exact HB.out)) hb); clear HB; have HB := n0_; clear n0_; (try clear hb); (try clear hb2); (try clear hk); (try clear hi)))
  go_ret
  exact ⟨by first | rfl | (simp [errW_none, errW_some] <;> rfl) | (simp [*, errW_none, errW_some] <;> rfl), by repeat (first | (with_reducible first | exact HB.out | apply below_alloc | apply pw_below_drewN | apply below_drew1) | exact HB.out)⟩
 ·rw [if_neg c3] at H
  exact absurd H (by simp)

end Go.Proofs.YtndgaeldndgioaaGreatDoor.QAll
end

section
/- Walks, written by a program of this session (wip/pp): a Go function comes to what the Lean function beside it tells. -/
namespace Go.Proofs.YtndgaeldndgioaaGreatDoor.QAll
open Go.RowKit Go.Proofs.YtndgaeldndgioaaGreatDoorW.PrintWords Go.Proofs.YtndgaeldndgioaaGreatDoorW.PrintLast Go.Proofs.YtndgaeldndgioaaGreatDoorW.PrintMore
attribute [local go_sem] max2_int min2_int max_two min_two max_three min_three max_four min_four
set_option linter.unusedVariables false
set_option linter.unusedSimpArgs false

def squelchref30_text.l0 : Nat → ByteArray → ByteArray → Int → Option (ByteArray)
 | 0, _, _, _ => none
 | k + 1, x0, x3, x4 => if x4 < (x0.size : Int) then (if 0 ≤ x4 then (if (bt x0 x4) < 33 then (if x3.size + 1 ≤ 9223372036854775807 then ((squelchref30_two.f (bt x0 x4)).bind fun t203 => (if (x3 ++ (⟨#[37]⟩ : ByteArray)).size + t203.size ≤ 9223372036854775807 then (squelchref30_text.l0 k x0 ((x3 ++ (⟨#[37]⟩ : ByteArray)) ++ t203) (wrap64 (x4 + 1))) else (none))) else (none)) else (if (bt x0 x4) > 126 then (if x3.size + 1 ≤ 9223372036854775807 then ((squelchref30_two.f (bt x0 x4)).bind fun t204 => (if (x3 ++ (⟨#[37]⟩ : ByteArray)).size + t204.size ≤ 9223372036854775807 then (squelchref30_text.l0 k x0 ((x3 ++ (⟨#[37]⟩ : ByteArray)) ++ t204) (wrap64 (x4 + 1))) else (none))) else (none)) else (if (bt x0 x4) = 37 then (if x3.size + 1 ≤ 9223372036854775807 then ((squelchref30_two.f (bt x0 x4)).bind fun t205 => (if (x3 ++ (⟨#[37]⟩ : ByteArray)).size + t205.size ≤ 9223372036854775807 then (squelchref30_text.l0 k x0 ((x3 ++ (⟨#[37]⟩ : ByteArray)) ++ t205) (wrap64 (x4 + 1))) else (none))) else (none)) else (if x4 ≤ (wrap64 (x4 + 1)) then (if (wrap64 (x4 + 1)) ≤ (x0.size : Int) then (if x3.size + (x0.extract (x4 : Int).toNat ((wrap64 (x4 + 1)) : Int).toNat).size ≤ 9223372036854775807 then (squelchref30_text.l0 k x0 (x3 ++ (x0.extract (x4 : Int).toNat ((wrap64 (x4 + 1)) : Int).toNat)) (wrap64 (x4 + 1))) else (none)) else (none)) else (none))))) else (none)) else (some x3)
def squelchref30_text.f (k : Nat) (a0 : ByteArray) : Option (ByteArray) := squelchref30_text.l0 k a0 (⟨#[61]⟩ : ByteArray) 0
set_option maxHeartbeats 8000000 in
set_option maxRecDepth 100000 in
theorem squelchref30_text.calls (k : Nat) (a0 : ByteArray) (r : ByteArray) (w : World) (h : squelchref30_text.f k a0 = some r) :
  Calls Tryz.prog 55 #[.string a0] w fun e w' => e = .returned (.string r) ∧ Drawn0 w w' := by
 have H : (squelchref30_text.l0 k a0 (⟨#[61]⟩ : ByteArray) 0) = some r := h
 clear h
 have H' := Aside0.mk H
 clear H
 go_enter Tryz.func55, Tryz.ntmps55
 go_wp2
 go_loopg [3, 4] k (fun kq v3 v4 w' => ∃ (x3_1 : ByteArray) (x4_1 : Int), v3 = .string x3_1 ∧ v4 = .int .i64 x4_1 ∧ Aside0 (squelchref30_text.l0 kq a0 x3_1 x4_1 = some r) ∧ Aside0 (kq ≤ k) ∧ Drawn0 w w')
 case atStart => exact ⟨((⟨#[61]⟩ : ByteArray)), (0), (by first | rfl | (simp; done) | (simp [*]; done) | (simp; exact (fun l : List UInt8 => (by cases l <;> rfl : l.isEmpty = !(l != []))) _)), (by first | rfl | (simp; done) | (simp [*]; done) | (simp; exact (fun l : List UInt8 => (by cases l <;> rfl : l.isEmpty = !(l != []))) _)), H', ⟨Nat.le_refl _⟩, by repeat (first | exact Drawn0.refl _ | apply Drawn0.step)⟩
 case round =>
  clear H'
  obtain ⟨x3_1, x4_1, rfl, rfl, HA, HK1, ⟨m1, rfl⟩⟩ := hrel
  cases gk with
  | zero => exact absurd HA.out (by simp [squelchref30_text.l0])
  | succ k1 =>
   have H := HA.out
   clear HA
   simp only [squelchref30_text.l0] at H
   by_cases c2 : x4_1 < (a0.size : Int)
   ·rw [if_pos c2] at H
    have c2b0 : decide (x4_1 < (a0.size : Int)) = true := decide_eq_true c2
    clear c2
    by_cases c3 : 0 ≤ x4_1
    ·rw [if_pos c3] at H
     have c3b0 : decide (0 ≤ x4_1) = true := decide_eq_true c3
     clear c3
     by_cases c5 : (bt a0 x4_1) < 33
     ·rw [if_pos c5] at H
      have c5b0 : decide ((bt a0 x4_1) < 33) = true := decide_eq_true c5
      clear c5
      by_cases c6 : x3_1.size + 1 ≤ 9223372036854775807
      ·rw [if_pos c6] at H
       have c6b0 := eq_true c6
       have c6b1 : decide (x3_1.size + 1 ≤ 9223372036854775807) = true := decide_eq_true c6
       try have c6b2 : (9223372036854775807 < x3_1.size + 1) = False := eq_false (Nat.not_lt.2 c6)
       replace H := Option.bind_eq_some_iff.mp H
       obtain ⟨t203, A80, H⟩ := H
       replace H : (if (x3_1 ++ (⟨#[37]⟩ : ByteArray)).size + t203.size ≤ 9223372036854775807 then (squelchref30_text.l0 k1 a0 ((x3_1 ++ (⟨#[37]⟩ : ByteArray)) ++ t203) (wrap64 (x4_1 + 1))) else (none)) = some r := H
       have A8 := Aside0.mk A80
       clear A80
       by_cases c9 : (x3_1 ++ (⟨#[37]⟩ : ByteArray)).size + t203.size ≤ 9223372036854775807
       ·rw [if_pos c9] at H
        have c9b0 := eq_true c9
        have c9b1 : decide ((x3_1 ++ (⟨#[37]⟩ : ByteArray)).size + t203.size ≤ 9223372036854775807) = true := decide_eq_true c9
        try have c9b2 : (9223372036854775807 < (x3_1 ++ (⟨#[37]⟩ : ByteArray)).size + t203.size) = False := eq_false (Nat.not_lt.2 c9)
        (try (have c9b5 := c9b2; simp only [ByteArray.size_append, show (⟨#[37]⟩ : ByteArray).size = 1 from rfl] at c9b5))
        have H' := Aside0.mk H
        clear H
        have p4 : 0 ≤ (x4_1 : Int) := of_decide_eq_true (by first | (with_reducible assumption) | assumption)
        have q4 : x4_1 < (a0.size : Int) := of_decide_eq_true (by first | (with_reducible assumption) | assumption)
        have hx4 := bt_at a0 x4_1
        replace p4 := eq_true p4
        replace q4 := eq_true q4
        have p7 : 0 ≤ (x4_1 : Int) := of_decide_eq_true (by first | (with_reducible assumption) | assumption)
        have q7 : x4_1 < (a0.size : Int) := of_decide_eq_true (by first | (with_reducible assumption) | assumption)
        have hx7 := bt_at a0 x4_1
        replace p7 := eq_true p7
        replace q7 := eq_true q7
        go_wp2_with (first | ((with_reducible refine gate_callee (f := 54) rfl ?_); refine goesL_ (some 32) rfl rfl Tryz.func54 (by kernel_rfl) rfl #[.int .u8 (bt a0 x4_1)] rfl (by (try simp only [List.map_toArray, List.map_cons, List.map_nil]); first | done | rfl | (simp only [List.length_drop, List.length_take]; rfl)) ?_; (with_reducible refine (squelchref30_two.calls (bt a0 x4_1) t203 _ A8.out).mono ?_); rintro e w' ⟨rfl, ⟨nd, rfl⟩⟩; refine ⟨_, rfl, ?_⟩))
        go_roundg k1
        case measure => have := HK1.out; omega
        case rel => exact ⟨((x3_1 ++ (⟨#[37]⟩ : ByteArray)) ++ t203), (wrap64 (x4_1 + 1)), (by first | rfl | (simp; done) | (simp [*]; done) | (simp; exact (fun l : List UInt8 => (by cases l <;> rfl : l.isEmpty = !(l != []))) _)), (by first | rfl | (simp; done) | (simp [*]; done) | (simp; exact (fun l : List UInt8 => (by cases l <;> rfl : l.isEmpty = !(l != []))) _)), H', ⟨by have := HK1.out; omega⟩, by repeat (first | exact Drawn0.refl _ | apply Drawn0.step)⟩
       ·rw [if_neg c9] at H
        exact absurd H (by simp)
      ·rw [if_neg c6] at H
       exact absurd H (by simp)
     ·rw [if_neg c5] at H
      have c5b0 : decide ((bt a0 x4_1) < 33) = false := decide_eq_false c5
      clear c5
      by_cases c11 : (bt a0 x4_1) > 126
      ·rw [if_pos c11] at H
       have c11b0 : decide (126 < (bt a0 x4_1)) = true := decide_eq_true c11
       clear c11
       by_cases c12 : x3_1.size + 1 ≤ 9223372036854775807
       ·rw [if_pos c12] at H
        have c12b0 := eq_true c12
        have c12b1 : decide (x3_1.size + 1 ≤ 9223372036854775807) = true := decide_eq_true c12
        try have c12b2 : (9223372036854775807 < x3_1.size + 1) = False := eq_false (Nat.not_lt.2 c12)
        replace H := Option.bind_eq_some_iff.mp H
        obtain ⟨t204, A140, H⟩ := H
        replace H : (if (x3_1 ++ (⟨#[37]⟩ : ByteArray)).size + t204.size ≤ 9223372036854775807 then (squelchref30_text.l0 k1 a0 ((x3_1 ++ (⟨#[37]⟩ : ByteArray)) ++ t204) (wrap64 (x4_1 + 1))) else (none)) = some r := H
        have A14 := Aside0.mk A140
        clear A140
        by_cases c15 : (x3_1 ++ (⟨#[37]⟩ : ByteArray)).size + t204.size ≤ 9223372036854775807
        ·rw [if_pos c15] at H
         have c15b0 := eq_true c15
         have c15b1 : decide ((x3_1 ++ (⟨#[37]⟩ : ByteArray)).size + t204.size ≤ 9223372036854775807) = true := decide_eq_true c15
         try have c15b2 : (9223372036854775807 < (x3_1 ++ (⟨#[37]⟩ : ByteArray)).size + t204.size) = False := eq_false (Nat.not_lt.2 c15)
         (try (have c15b5 := c15b2; simp only [ByteArray.size_append, show (⟨#[37]⟩ : ByteArray).size = 1 from rfl] at c15b5))
         have H' := Aside0.mk H
         clear H
         have p4 : 0 ≤ (x4_1 : Int) := of_decide_eq_true (by first | (with_reducible assumption) | assumption)
         have q4 : x4_1 < (a0.size : Int) := of_decide_eq_true (by first | (with_reducible assumption) | assumption)
         have hx4 := bt_at a0 x4_1
         replace p4 := eq_true p4
         replace q4 := eq_true q4
         have p10 : 0 ≤ (x4_1 : Int) := of_decide_eq_true (by first | (with_reducible assumption) | assumption)
         have q10 : x4_1 < (a0.size : Int) := of_decide_eq_true (by first | (with_reducible assumption) | assumption)
         have hx10 := bt_at a0 x4_1
         replace p10 := eq_true p10
         replace q10 := eq_true q10
         have p13 : 0 ≤ (x4_1 : Int) := of_decide_eq_true (by first | (with_reducible assumption) | assumption)
         have q13 : x4_1 < (a0.size : Int) := of_decide_eq_true (by first | (with_reducible assumption) | assumption)
         have hx13 := bt_at a0 x4_1
         replace p13 := eq_true p13
         replace q13 := eq_true q13
         go_wp2_with (first | ((with_reducible refine gate_callee (f := 54) rfl ?_); refine goesL_ (some 32) rfl rfl Tryz.func54 (by kernel_rfl) rfl #[.int .u8 (bt a0 x4_1)] rfl (by (try simp only [List.map_toArray, List.map_cons, List.map_nil]); first | done | rfl | (simp only [List.length_drop, List.length_take]; rfl)) ?_; (with_reducible refine (squelchref30_two.calls (bt a0 x4_1) t204 _ A14.out).mono ?_); rintro e w' ⟨rfl, ⟨nd, rfl⟩⟩; refine ⟨_, rfl, ?_⟩))
         go_roundg k1
         case measure => have := HK1.out; omega
         case rel => exact ⟨((x3_1 ++ (⟨#[37]⟩ : ByteArray)) ++ t204), (wrap64 (x4_1 + 1)), (by first | rfl | (simp; done) | (simp [*]; done) | (simp; exact (fun l : List UInt8 => (by cases l <;> rfl : l.isEmpty = !(l != []))) _)), (by first | rfl | (simp; done) | (simp [*]; done) | (simp; exact (fun l : List UInt8 => (by cases l <;> rfl : l.isEmpty = !(l != []))) _)), H', ⟨by have := HK1.out; omega⟩, by repeat (first | exact Drawn0.refl _ | apply Drawn0.step)⟩
        ·rw [if_neg c15] at H
         exact absurd H (by simp)
       ·rw [if_neg c12] at H
        exact absurd H (by simp)
      ·rw [if_neg c11] at H
       have c11b0 : decide (126 < (bt a0 x4_1)) = false := decide_eq_false c11
       clear c11
       by_cases c17 : (bt a0 x4_1) = 37
       ·rw [if_pos c17] at H
        have c17b0 : ((bt a0 x4_1) == 37) = true := beq_iff_eq.mpr c17
        have c17b1 : ((bt a0 x4_1) != 37) = false := bne_eq_false_iff_eq.mpr c17
        clear c17
        by_cases c18 : x3_1.size + 1 ≤ 9223372036854775807
        ·rw [if_pos c18] at H
         have c18b0 := eq_true c18
         have c18b1 : decide (x3_1.size + 1 ≤ 9223372036854775807) = true := decide_eq_true c18
         try have c18b2 : (9223372036854775807 < x3_1.size + 1) = False := eq_false (Nat.not_lt.2 c18)
         replace H := Option.bind_eq_some_iff.mp H
         obtain ⟨t205, A200, H⟩ := H
         replace H : (if (x3_1 ++ (⟨#[37]⟩ : ByteArray)).size + t205.size ≤ 9223372036854775807 then (squelchref30_text.l0 k1 a0 ((x3_1 ++ (⟨#[37]⟩ : ByteArray)) ++ t205) (wrap64 (x4_1 + 1))) else (none)) = some r := H
         have A20 := Aside0.mk A200
         clear A200
         by_cases c21 : (x3_1 ++ (⟨#[37]⟩ : ByteArray)).size + t205.size ≤ 9223372036854775807
         ·rw [if_pos c21] at H
          have c21b0 := eq_true c21
          have c21b1 : decide ((x3_1 ++ (⟨#[37]⟩ : ByteArray)).size + t205.size ≤ 9223372036854775807) = true := decide_eq_true c21
          try have c21b2 : (9223372036854775807 < (x3_1 ++ (⟨#[37]⟩ : ByteArray)).size + t205.size) = False := eq_false (Nat.not_lt.2 c21)
          (try (have c21b5 := c21b2; simp only [ByteArray.size_append, show (⟨#[37]⟩ : ByteArray).size = 1 from rfl] at c21b5))
          have H' := Aside0.mk H
          clear H
          have p4 : 0 ≤ (x4_1 : Int) := of_decide_eq_true (by first | (with_reducible assumption) | assumption)
          have q4 : x4_1 < (a0.size : Int) := of_decide_eq_true (by first | (with_reducible assumption) | assumption)
          have hx4 := bt_at a0 x4_1
          replace p4 := eq_true p4
          replace q4 := eq_true q4
          have p10 : 0 ≤ (x4_1 : Int) := of_decide_eq_true (by first | (with_reducible assumption) | assumption)
          have q10 : x4_1 < (a0.size : Int) := of_decide_eq_true (by first | (with_reducible assumption) | assumption)
          have hx10 := bt_at a0 x4_1
          replace p10 := eq_true p10
          replace q10 := eq_true q10
          have p16 : 0 ≤ (x4_1 : Int) := of_decide_eq_true (by first | (with_reducible assumption) | assumption)
          have q16 : x4_1 < (a0.size : Int) := of_decide_eq_true (by first | (with_reducible assumption) | assumption)
          have hx16 := bt_at a0 x4_1
          replace p16 := eq_true p16
          replace q16 := eq_true q16
          have p19 : 0 ≤ (x4_1 : Int) := of_decide_eq_true (by first | (with_reducible assumption) | assumption)
          have q19 : x4_1 < (a0.size : Int) := of_decide_eq_true (by first | (with_reducible assumption) | assumption)
          have hx19 := bt_at a0 x4_1
          replace p19 := eq_true p19
          replace q19 := eq_true q19
          go_wp2_with (first | ((with_reducible refine gate_callee (f := 54) rfl ?_); refine goesL_ (some 32) rfl rfl Tryz.func54 (by kernel_rfl) rfl #[.int .u8 (bt a0 x4_1)] rfl (by (try simp only [List.map_toArray, List.map_cons, List.map_nil]); first | done | rfl | (simp only [List.length_drop, List.length_take]; rfl)) ?_; (with_reducible refine (squelchref30_two.calls (bt a0 x4_1) t205 _ A20.out).mono ?_); rintro e w' ⟨rfl, ⟨nd, rfl⟩⟩; refine ⟨_, rfl, ?_⟩))
          go_roundg k1
          case measure => have := HK1.out; omega
          case rel => exact ⟨((x3_1 ++ (⟨#[37]⟩ : ByteArray)) ++ t205), (wrap64 (x4_1 + 1)), (by first | rfl | (simp; done) | (simp [*]; done) | (simp; exact (fun l : List UInt8 => (by cases l <;> rfl : l.isEmpty = !(l != []))) _)), (by first | rfl | (simp; done) | (simp [*]; done) | (simp; exact (fun l : List UInt8 => (by cases l <;> rfl : l.isEmpty = !(l != []))) _)), H', ⟨by have := HK1.out; omega⟩, by repeat (first | exact Drawn0.refl _ | apply Drawn0.step)⟩
         ·rw [if_neg c21] at H
          exact absurd H (by simp)
        ·rw [if_neg c18] at H
         exact absurd H (by simp)
       ·rw [if_neg c17] at H
        have c17b0 : ((bt a0 x4_1) == 37) = false := beq_eq_false_iff_ne.mpr c17
        have c17b1 : ((bt a0 x4_1) != 37) = true := bne_iff_ne.mpr c17
        have c22b0 := eq_true (of_decide_eq_true (by first | (with_reducible assumption) | assumption) : 0 ≤ x4_1)
        by_cases c23 : x4_1 ≤ (wrap64 (x4_1 + 1))
        ·rw [if_pos c23] at H
         have c23b0 := eq_true c23
         have c23b1 : decide (x4_1 ≤ (wrap64 (x4_1 + 1))) = true := decide_eq_true c23
         by_cases c24 : (wrap64 (x4_1 + 1)) ≤ (a0.size : Int)
         ·rw [if_pos c24] at H
          have c24b0 := eq_true c24
          have c24b1 : decide ((wrap64 (x4_1 + 1)) ≤ (a0.size : Int)) = true := decide_eq_true c24
          by_cases c25 : x3_1.size + (a0.extract (x4_1 : Int).toNat ((wrap64 (x4_1 + 1)) : Int).toNat).size ≤ 9223372036854775807
          ·rw [if_pos c25] at H
           have c25b0 := eq_true c25
           have c25b1 : decide (x3_1.size + (a0.extract (x4_1 : Int).toNat ((wrap64 (x4_1 + 1)) : Int).toNat).size ≤ 9223372036854775807) = true := decide_eq_true c25
           try have c25b2 : (9223372036854775807 < x3_1.size + (a0.extract (x4_1 : Int).toNat ((wrap64 (x4_1 + 1)) : Int).toNat).size) = False := eq_false (Nat.not_lt.2 c25)
           (try have c25b3 : (9223372036854775807 < x3_1.size + (((wrap64 (x4_1 + 1))).toNat - (x4_1).toNat)) = False := eq_false (Nat.not_lt.2 (by have hx_ := c25; simp only [ByteArray.size_extract] at hx_; omega)))
           have H' := Aside0.mk H
           clear H
           have p4 : 0 ≤ (x4_1 : Int) := of_decide_eq_true (by first | (with_reducible assumption) | assumption)
           have q4 : x4_1 < (a0.size : Int) := of_decide_eq_true (by first | (with_reducible assumption) | assumption)
           have hx4 := bt_at a0 x4_1
           replace p4 := eq_true p4
           replace q4 := eq_true q4
           have p10 : 0 ≤ (x4_1 : Int) := of_decide_eq_true (by first | (with_reducible assumption) | assumption)
           have q10 : x4_1 < (a0.size : Int) := of_decide_eq_true (by first | (with_reducible assumption) | assumption)
           have hx10 := bt_at a0 x4_1
           replace p10 := eq_true p10
           replace q10 := eq_true q10
           have p16 : 0 ≤ (x4_1 : Int) := of_decide_eq_true (by first | (with_reducible assumption) | assumption)
           have q16 : x4_1 < (a0.size : Int) := of_decide_eq_true (by first | (with_reducible assumption) | assumption)
           have hx16 := bt_at a0 x4_1
           replace p16 := eq_true p16
           replace q16 := eq_true q16
           go_wp2
           go_roundg k1
           case measure => have := HK1.out; omega
           case rel => exact ⟨(x3_1 ++ (a0.extract (x4_1 : Int).toNat ((wrap64 (x4_1 + 1)) : Int).toNat)), (wrap64 (x4_1 + 1)), (by first | rfl | (simp; done) | (simp [*]; done) | (simp; exact (fun l : List UInt8 => (by cases l <;> rfl : l.isEmpty = !(l != []))) _)), (by first | rfl | (simp; done) | (simp [*]; done) | (simp; exact (fun l : List UInt8 => (by cases l <;> rfl : l.isEmpty = !(l != []))) _)), H', ⟨by have := HK1.out; omega⟩, by repeat (first | exact Drawn0.refl _ | apply Drawn0.step)⟩
          ·rw [if_neg c25] at H
           exact absurd H (by simp)
         ·rw [if_neg c24] at H
          exact absurd H (by simp)
        ·rw [if_neg c23] at H
         exact absurd H (by simp)
    ·rw [if_neg c3] at H
     exact absurd H (by simp)
   ·rw [if_neg c2] at H
    have c2b0 : decide (x4_1 < (a0.size : Int)) = false := decide_eq_false c2
    clear c2
    obtain rfl := Option.some.inj H
    go_wp2
    go_ret
    exact ⟨by first | rfl | (simp; done) | (simp [*]; done) | (simp; exact (fun l : List UInt8 => (by cases l <;> rfl : l.isEmpty = !(l != []))) _), by repeat (first | exact Drawn0.refl _ | apply Drawn0.step)⟩

end Go.Proofs.YtndgaeldndgioaaGreatDoor.QAll
end

section
/- squelchref30.Print, walked by hand, for each kind that there is. -/
set_option linter.unusedVariables false
set_option linter.unusedSimpArgs false
namespace Go.Proofs.YtndgaeldndgioaaGreatDoor.QAll
open Go.RowKit Go.Proofs.YtndgaeldndgioaaGreatDoorW.PrintWords Go.Proofs.YtndgaeldndgioaaGreatDoorW.PrintLast Go.Proofs.YtndgaeldndgioaaGreatDoorW.PrintMore

def namesL : List ByteArray := [⟨#[]⟩, ⟨#[75, 69, 89, 83]⟩, ⟨#[75, 73, 83, 83]⟩, ⟨#[82, 69, 65, 68]⟩, ⟨#[84, 73, 67, 75]⟩, ⟨#[76, 79, 83, 69]⟩, ⟨#[83, 80, 79, 73, 76]⟩, ⟨#[66, 76, 79, 67, 75]⟩, ⟨#[79, 80, 69, 78]⟩, ⟨#[83, 84, 65, 78, 68]⟩, ⟨#[77, 79, 86, 69]⟩, ⟨#[84, 85, 82, 78]⟩]
/-- What Names() has told: any of its names can be loaded. -/
theorem names_at (w : World) : Calls Tryz.prog 18 #[] w fun e w' => (∃ (g c : Nat), e = .returned (.slice (some ⟨g, 0, none⟩) 12 c) ∧ ∀ j x, namesL[j]? = some x → w'.cell? ⟨g, j, none⟩ = some (.string x)) ∧ Below w.heap.size w w' := by
  refine (squelchref30_Names.calls namesL w rfl).mono ?_
  rintro e w' ⟨v, rfl, hR, hb⟩
  refine ⟨?_, hb⟩
  obtain ⟨g, c, rfl, hg, hlt, _⟩ := Kd.R_form hR (by decide)
  refine ⟨g, c, rfl, fun j x hx => ?_⟩
  have hj : j < namesL.length := (List.getElem?_eq_some_iff.1 hx).1
  obtain ⟨cs, hcl, hM, hcc, _⟩ := Kd.R_elem hR ByteArray.empty (j : Int) (by omega) (by omega)
  have hk : Kd.string.K w' (namesL.getD j ByteArray.empty) cs := Kd.string.K_of_M hM
  have hk' : cs = [.string (namesL.getD j ByteArray.empty)] := hk
  subst hk'
  have := hcc 0 _ rfl
  rw [List.getD_eq_getElem?_getD, hx] at this
  simpa [show Kd.string.sz = 1 from rfl] using this
def rV (k a b n m : Int) (s : ByteArray) (x y : Int) (d : ByteArray) : Value := .agg #[.int .i64 k, .int .i64 a, .int .i64 b, .int .i64 n, .int .i64 m, .string s, .int .i64 x, .int .i64 y, .string d]
theorem cells9 {w : World} {g : Nat} {v0 v1 v2 v3 v4 v5 v6 v7 v8 : Value} {t : TypeId} (h : w.heap[g]? = some (.cells #[v0, v1, v2, v3, v4, v5, v6, v7, v8] t (0, 0))) :
    w.cell? ⟨g, 0, none⟩ = some v0 ∧ w.cell? ⟨g, 1, none⟩ = some v1 ∧ w.cell? ⟨g, 2, none⟩ = some v2 ∧ w.cell? ⟨g, 3, none⟩ = some v3 ∧ w.cell? ⟨g, 4, none⟩ = some v4 ∧ w.cell? ⟨g, 5, none⟩ = some v5 ∧ w.cell? ⟨g, 6, none⟩ = some v6 ∧ w.cell? ⟨g, 7, none⟩ = some v7 ∧ w.cell? ⟨g, 8, none⟩ = some v8 := by
  simp [World.cell?, h]
end Go.Proofs.YtndgaeldndgioaaGreatDoor.QAll
end

section
/- The names and the letters of the kinds: what script.form tells; and script.line by it. -/
set_option linter.unusedVariables false
set_option linter.unusedSimpArgs false
namespace Go.Proofs.YtndgaeldndgioaaGreatDoor.QAll
open Go.RowKit Go.Proofs.YtndgaeldndgioaaGreatDoorW.PrintWords Go.Proofs.YtndgaeldndgioaaGreatDoorW.PrintLast Go.Proofs.YtndgaeldndgioaaGreatDoorW.PrintMore
open Go.Proofs.YtndgaeldndgioaaGreatDoor.Fl

/-- A kind's letters. -/
def lettL : List (List UInt8) := [[], [65, 83], [65, 83], [65], [68], [65, 66], [65, 66, 78, 77], [65, 66], [65, 66], [65, 88, 89, 78], [65, 88, 89], [65, 88, 89]]
def lettersOf (k : Nat) : ByteArray := ⟨(lettL.getD k []).toArray⟩
def nameOf (k : Nat) : ByteArray := namesL.getD k ⟨#[]⟩
theorem form_all : ((List.range 12).all fun k => decide (script_form.f (k : Int) = some (nameOf k, lettersOf k))) = true := by kernel_rfl
theorem form_at (k : Nat) (hk : k < 12) : script_form.f (k : Int) = some (nameOf k, lettersOf k) := of_decide_eq_true (List.all_eq_true.1 form_all k (List.mem_range.2 hk))
theorem name_all : ((List.range 12).all fun k => k == 0 || !((nameOf k).toList == [])) = true := by kernel_rfl
theorem name_ne (k : Nat) (h0 : 0 < k) (hk : k < 12) : ((nameOf k).toList == []) = false := by
  have h := List.all_eq_true.1 name_all k (List.mem_range.2 hk)
  have e : (k == 0) = false := beq_false_of_ne (by omega)
  rw [e, Bool.false_or] at h
  simpa using h
theorem lett_all : ((List.range 12).all fun k => decide ((lettersOf k).size ≤ 4) && (lettersOf k).data.toList.all fun c => decide (c.toNat < 128)) = true := by kernel_rfl
theorem lett_size (k : Nat) (hk : k < 12) : (lettersOf k).size ≤ 4 := by
  have h := List.all_eq_true.1 lett_all k (List.mem_range.2 hk)
  rw [Bool.and_eq_true] at h
  exact of_decide_eq_true h.1
theorem lett_ascii (k : Nat) (hk : k < 12) (j : Nat) (h : j < (lettersOf k).size) : ((lettersOf k)[j]'h).toNat < 128 := by
  have h1 := List.all_eq_true.1 lett_all k (List.mem_range.2 hk)
  rw [Bool.and_eq_true] at h1
  exact of_decide_eq_true (List.all_eq_true.1 h1.2 _ (by
    show (lettersOf k).data[j] ∈ _
    exact Array.mem_toList_iff.2 (Array.getElem_mem _)))
/-- script.line of an event of a kind that there is. -/
theorem line_calls (e : Ev) (A : Option Addr) (c : Nat) (k : Nat) (h0 : 0 < k) (hk : k < 12) (hek : e.k = k) (res : Option (List ByteArray)) (r1 : ByteArray) (r2 : Bool) (w : World) (hE : EnvW w) (ho : EvOk e) (hd : (Kd.int .u8).C w A e.d.length e.d)
    (hL : lineL e (lettersOf k).data.toList [nameOf k] = some res) (hR : lineR res = some (r1, r2)) :
    Calls Tryz.prog 48 #[evV e A c] w fun r w' => r = .returned (.tuple #[.string r1, .bool r2]) ∧ Below w.heap.size w w' :=
  line_core e A c (nameOf k) (lettersOf k) res r1 r2 w hE ho hd (by rw [hek]; exact form_at k hk) (name_ne k h0 hk) (by have := lett_size k hk; omega) (lett_ascii k hk) hL hR
end Go.Proofs.YtndgaeldndgioaaGreatDoor.QAll
end

section
/- What the walks take from the library's shelf, at this program: written by the kit's own tools, the wanted ones picked by a program of this session (wip/pp/shelf.py). -/
namespace Go.Proofs
open Go.Shelf
def Tryz.lays137_ren : Go.Shelf.Ren := ⟨fun | 137 => 102 | 217 => 119 | 266 => 132 | n => n, fun | 9 => 9 | 5 => 5 | 3 => 3 | n => n, fun | n => n⟩
theorem Tryz.lays137 : Go.Proofs.Lays.n137 Tryz.prog Tryz.lays137_ren := {
  mixed := by kernel_rfl
  f137 := Tryz.func102.trans (congrArg some (by kernel_rfl))
  f217 := Tryz.func119.trans (congrArg some (by kernel_rfl))
  f266 := Tryz.func132.trans (congrArg some (by kernel_rfl))
  t3 := Tryz.underlying3
  a3 := Tryz.isAgg3
  z3 := Tryz.sizeOf3
  v3 := Tryz.zeroValue3
  t5 := Tryz.underlying5
  a5 := Tryz.isAgg5
  z5 := Tryz.sizeOf5
  v5 := Tryz.zeroValue5
  t9 := Tryz.underlying9
  a9 := Tryz.isAgg9
  z9 := Tryz.sizeOf9
  v9 := Tryz.zeroValue9 }
open Go.RowKit in
theorem Tryz.strings_IndexByte (s : ByteArray) (c : Int) (w : World) :
    Calls Tryz.prog 102 #[.string s, .int .u8 c] w fun e w' => e = .returned (.int .i64 (Lib.indexByte s.data.toList c.toNat.toUInt8)) ∧ w' = w := Any.strings_IndexByte Tryz.lays137 s c w
end Go.Proofs
end

section
/- strings.IndexByte, in the shape that the walks take it. -/
set_option linter.unusedVariables false
namespace Go.Proofs.YtndgaeldndgioaaGreatDoor.QAll
open Go.RowKit Go.Shelf Go.Proofs.YtndgaeldndgioaaGreatDoorW.PrintWords Go.Proofs.YtndgaeldndgioaaGreatDoorW.PrintLast Go.Proofs.YtndgaeldndgioaaGreatDoorW.PrintMore
def strings_IndexByte.f (a0 : ByteArray) (a1 : Int) : Option Int := some (Lib.indexByte a0.data.toList a1.toNat.toUInt8)
theorem strings_IndexByte.calls (a0 : ByteArray) (a1 : Int) (r : Int) (w : World) (h : strings_IndexByte.f a0 a1 = some r) :
    Calls Tryz.prog 102 #[.string a0, .int .u8 a1] w fun e w' => e = .returned (.int .i64 r) ∧ Drawn0 w w' := by
  obtain rfl := Option.some.inj h
  refine (Tryz.strings_IndexByte a0 a1 w).mono ?_
  rintro e w' ⟨rfl, rfl⟩
  exact ⟨rfl, Drawn0.refl _⟩
end Go.Proofs.YtndgaeldndgioaaGreatDoor.QAll
end

section
/- Walks, written by a program of this session (wip/pp): a Go function comes to what the Lean function beside it tells. -/
namespace Go.Proofs.YtndgaeldndgioaaGreatDoor.QAll
open Go.RowKit Go.Proofs.YtndgaeldndgioaaGreatDoorW.PrintWords Go.Proofs.YtndgaeldndgioaaGreatDoorW.PrintLast Go.Proofs.YtndgaeldndgioaaGreatDoorW.PrintMore
attribute [local go_sem] max2_int min2_int max_two min_two max_three min_three max_four min_four
set_option linter.unusedVariables false
set_option linter.unusedSimpArgs false

def script_value.f (a0 : ByteArray) : Option (Int × Bool) := if 0 < (a0.size : Int) then ((strings_IndexByte.f (⟨#[48, 49, 50, 51, 52, 53, 54, 55, 56, 57, 65, 66, 67, 68, 69, 70]⟩ : ByteArray) (bt a0 0)).bind fun t149 => (if 1 < (a0.size : Int) then ((strings_IndexByte.f (⟨#[48, 49, 50, 51, 52, 53, 54, 55, 56, 57, 65, 66, 67, 68, 69, 70]⟩ : ByteArray) (bt a0 1)).bind fun t150 => (if t149 ≥ 0 then (some ((Go.bits .or .i64 (wrap64 (t149 * 16)) (Go.bits .and .i64 t150 15)) % 256, decide (t150 ≥ 0))) else (some ((Go.bits .or .i64 (wrap64 (t149 * 16)) (Go.bits .and .i64 t150 15)) % 256, false)))) else (none))) else (none)
set_option maxHeartbeats 8000000 in
set_option maxRecDepth 100000 in
theorem script_value.calls (a0 : ByteArray) (r1 : Int) (r2 : Bool) (w : World) (h : script_value.f a0 = some (r1, r2)) :
  Calls Tryz.prog 80 #[.string a0] w fun e w' => e = .returned (.tuple #[.int .u8 r1, .bool r2]) ∧ Drawn0 w w' := by
 have H : (if 0 < (a0.size : Int) then ((strings_IndexByte.f (⟨#[48, 49, 50, 51, 52, 53, 54, 55, 56, 57, 65, 66, 67, 68, 69, 70]⟩ : ByteArray) (bt a0 0)).bind fun t149 => (if 1 < (a0.size : Int) then ((strings_IndexByte.f (⟨#[48, 49, 50, 51, 52, 53, 54, 55, 56, 57, 65, 66, 67, 68, 69, 70]⟩ : ByteArray) (bt a0 1)).bind fun t150 => (if t149 ≥ 0 then (some ((Go.bits .or .i64 (wrap64 (t149 * 16)) (Go.bits .and .i64 t150 15)) % 256, decide (t150 ≥ 0))) else (some ((Go.bits .or .i64 (wrap64 (t149 * 16)) (Go.bits .and .i64 t150 15)) % 256, false)))) else (none))) else (none)) = some (r1, r2) := h
 clear h
 by_cases c2 : 0 < (a0.size : Int)
 ·rw [if_pos c2] at H
  have c2b0 : decide (0 < (a0.size : Int)) = true := decide_eq_true c2
  have c2b1 : decide (0 < a0.size) = true := decide_eq_true (by omega)
  clear c2
  replace H := Option.bind_eq_some_iff.mp H
  obtain ⟨t149, A40, H⟩ := H
  replace H : (if 1 < (a0.size : Int) then ((strings_IndexByte.f (⟨#[48, 49, 50, 51, 52, 53, 54, 55, 56, 57, 65, 66, 67, 68, 69, 70]⟩ : ByteArray) (bt a0 1)).bind fun t150 => (if t149 ≥ 0 then (some ((Go.bits .or .i64 (wrap64 (t149 * 16)) (Go.bits .and .i64 t150 15)) % 256, decide (t150 ≥ 0))) else (some ((Go.bits .or .i64 (wrap64 (t149 * 16)) (Go.bits .and .i64 t150 15)) % 256, false)))) else (none)) = some (r1, r2) := H
  have A4 := Aside0.mk A40
  clear A40
  by_cases c5 : 1 < (a0.size : Int)
  ·rw [if_pos c5] at H
   have c5b0 : decide (1 < (a0.size : Int)) = true := decide_eq_true c5
   have c5b1 : decide (1 < a0.size) = true := decide_eq_true (by omega)
   clear c5
   replace H := Option.bind_eq_some_iff.mp H
   obtain ⟨t150, A70, H⟩ := H
   replace H : (if t149 ≥ 0 then (some ((Go.bits .or .i64 (wrap64 (t149 * 16)) (Go.bits .and .i64 t150 15)) % 256, decide (t150 ≥ 0))) else (some ((Go.bits .or .i64 (wrap64 (t149 * 16)) (Go.bits .and .i64 t150 15)) % 256, false))) = some (r1, r2) := H
   have A7 := Aside0.mk A70
   clear A70
   by_cases c8 : t149 ≥ 0
   ·rw [if_pos c8] at H
    have c8b0 : decide (0 ≤ t149) = true := decide_eq_true c8
    clear c8
    simp only [Option.some.injEq, Prod.mk.injEq] at H
    obtain ⟨rfl, rfl⟩ := H
    have p3 : 0 ≤ (0 : Int) := (by omega)
    have q3 : 0 < a0.size := (by have : (0 : Int) < (a0.size : Int) := of_decide_eq_true (by first | (with_reducible assumption) | assumption); omega)
    have hx3 : ∀ h : 0 < a0.size, ((a0[0]'h).toNat : Int) = bt a0 0 := bt_at a0 0
    clear p3
    have qi3 : (0 < (a0.size : Int)) = True := eq_true (of_decide_eq_true (by first | (with_reducible assumption) | assumption))
    replace q3 := eq_true q3
    go_enter Tryz.func80, Tryz.ntmps80
    go_wp2_with (first | (go_at_call 102; (with_reducible refine (strings_IndexByte.calls (⟨#[48, 49, 50, 51, 52, 53, 54, 55, 56, 57, 65, 66, 67, 68, 69, 70]⟩ : ByteArray) (bt a0 0) t149 _ A4.out).mono ?_); rintro e w' ⟨rfl, ⟨nd, rfl⟩⟩; (try first | exact ⟨rfl, _, World.drewN_drewN _ _ _⟩ | exact ⟨rfl, _, Eq.trans (World.drewN_drewN _ _ _) (congrArg (World.drewN _) (Nat.add_assoc _ _ _))⟩); have p6 : 0 ≤ (1 : Int) := (by omega); have q6 : 1 < a0.size := (by have : (1 : Int) < (a0.size : Int) := of_decide_eq_true (by first | (with_reducible assumption) | assumption); omega); have hx6 : ∀ h : 1 < a0.size, ((a0[1]'h).toNat : Int) = bt a0 1 := bt_at a0 1; clear p6; have qi6 : (1 < (a0.size : Int)) = True := eq_true (of_decide_eq_true (by first | (with_reducible assumption) | assumption)); replace q6 := eq_true q6) | (go_at_call 102; (with_reducible refine (strings_IndexByte.calls (⟨#[48, 49, 50, 51, 52, 53, 54, 55, 56, 57, 65, 66, 67, 68, 69, 70]⟩ : ByteArray) (bt a0 1) t150 _ A7.out).mono ?_); rintro e w' ⟨rfl, ⟨nd, rfl⟩⟩; (try first | exact ⟨rfl, _, World.drewN_drewN _ _ _⟩ | exact ⟨rfl, _, Eq.trans (World.drewN_drewN _ _ _) (congrArg (World.drewN _) (Nat.add_assoc _ _ _))⟩)))
    repeat (go_quiet (first | (go_at_call 102; (with_reducible refine (strings_IndexByte.calls (⟨#[48, 49, 50, 51, 52, 53, 54, 55, 56, 57, 65, 66, 67, 68, 69, 70]⟩ : ByteArray) (bt a0 0) t149 _ A4.out).mono ?_); rintro e w' ⟨rfl, ⟨nd, rfl⟩⟩; (try first | exact ⟨rfl, _, World.drewN_drewN _ _ _⟩ | exact ⟨rfl, _, Eq.trans (World.drewN_drewN _ _ _) (congrArg (World.drewN _) (Nat.add_assoc _ _ _))⟩); have p6 : 0 ≤ (1 : Int) := (by omega); have q6 : 1 < a0.size := (by have : (1 : Int) < (a0.size : Int) := of_decide_eq_true (by first | (with_reducible assumption) | assumption); omega); have hx6 : ∀ h : 1 < a0.size, ((a0[1]'h).toNat : Int) = bt a0 1 := bt_at a0 1; clear p6; have qi6 : (1 < (a0.size : Int)) = True := eq_true (of_decide_eq_true (by first | (with_reducible assumption) | assumption)); replace q6 := eq_true q6) | (go_at_call 102; (with_reducible refine (strings_IndexByte.calls (⟨#[48, 49, 50, 51, 52, 53, 54, 55, 56, 57, 65, 66, 67, 68, 69, 70]⟩ : ByteArray) (bt a0 1) t150 _ A7.out).mono ?_); rintro e w' ⟨rfl, ⟨nd, rfl⟩⟩; (try first | exact ⟨rfl, _, World.drewN_drewN _ _ _⟩ | exact ⟨rfl, _, Eq.trans (World.drewN_drewN _ _ _) (congrArg (World.drewN _) (Nat.add_assoc _ _ _))⟩))); try go_wp2_with (first | (go_at_call 102; (with_reducible refine (strings_IndexByte.calls (⟨#[48, 49, 50, 51, 52, 53, 54, 55, 56, 57, 65, 66, 67, 68, 69, 70]⟩ : ByteArray) (bt a0 0) t149 _ A4.out).mono ?_); rintro e w' ⟨rfl, ⟨nd, rfl⟩⟩; (try first | exact ⟨rfl, _, World.drewN_drewN _ _ _⟩ | exact ⟨rfl, _, Eq.trans (World.drewN_drewN _ _ _) (congrArg (World.drewN _) (Nat.add_assoc _ _ _))⟩); have p6 : 0 ≤ (1 : Int) := (by omega); have q6 : 1 < a0.size := (by have : (1 : Int) < (a0.size : Int) := of_decide_eq_true (by first | (with_reducible assumption) | assumption); omega); have hx6 : ∀ h : 1 < a0.size, ((a0[1]'h).toNat : Int) = bt a0 1 := bt_at a0 1; clear p6; have qi6 : (1 < (a0.size : Int)) = True := eq_true (of_decide_eq_true (by first | (with_reducible assumption) | assumption)); replace q6 := eq_true q6) | (go_at_call 102; (with_reducible refine (strings_IndexByte.calls (⟨#[48, 49, 50, 51, 52, 53, 54, 55, 56, 57, 65, 66, 67, 68, 69, 70]⟩ : ByteArray) (bt a0 1) t150 _ A7.out).mono ?_); rintro e w' ⟨rfl, ⟨nd, rfl⟩⟩; (try first | exact ⟨rfl, _, World.drewN_drewN _ _ _⟩ | exact ⟨rfl, _, Eq.trans (World.drewN_drewN _ _ _) (congrArg (World.drewN _) (Nat.add_assoc _ _ _))⟩))))
    go_ret2
    exact ⟨by first | rfl | (simp; done) | (simp [*]; done) | (simp; exact (fun l : List UInt8 => (by cases l <;> rfl : l.isEmpty = !(l != []))) _), by repeat (first | exact Drawn0.refl _ | apply Drawn0.step)⟩
   ·rw [if_neg c8] at H
    have c8b0 : decide (0 ≤ t149) = false := decide_eq_false c8
    clear c8
    simp only [Option.some.injEq, Prod.mk.injEq] at H
    obtain ⟨rfl, rfl⟩ := H
    have p3 : 0 ≤ (0 : Int) := (by omega)
    have q3 : 0 < a0.size := (by have : (0 : Int) < (a0.size : Int) := of_decide_eq_true (by first | (with_reducible assumption) | assumption); omega)
    have hx3 : ∀ h : 0 < a0.size, ((a0[0]'h).toNat : Int) = bt a0 0 := bt_at a0 0
    clear p3
    have qi3 : (0 < (a0.size : Int)) = True := eq_true (of_decide_eq_true (by first | (with_reducible assumption) | assumption))
    replace q3 := eq_true q3
    go_enter Tryz.func80, Tryz.ntmps80
    go_wp2_with (first | (go_at_call 102; (with_reducible refine (strings_IndexByte.calls (⟨#[48, 49, 50, 51, 52, 53, 54, 55, 56, 57, 65, 66, 67, 68, 69, 70]⟩ : ByteArray) (bt a0 0) t149 _ A4.out).mono ?_); rintro e w' ⟨rfl, ⟨nd, rfl⟩⟩; (try first | exact ⟨rfl, _, World.drewN_drewN _ _ _⟩ | exact ⟨rfl, _, Eq.trans (World.drewN_drewN _ _ _) (congrArg (World.drewN _) (Nat.add_assoc _ _ _))⟩); have p6 : 0 ≤ (1 : Int) := (by omega); have q6 : 1 < a0.size := (by have : (1 : Int) < (a0.size : Int) := of_decide_eq_true (by first | (with_reducible assumption) | assumption); omega); have hx6 : ∀ h : 1 < a0.size, ((a0[1]'h).toNat : Int) = bt a0 1 := bt_at a0 1; clear p6; have qi6 : (1 < (a0.size : Int)) = True := eq_true (of_decide_eq_true (by first | (with_reducible assumption) | assumption)); replace q6 := eq_true q6) | (go_at_call 102; (with_reducible refine (strings_IndexByte.calls (⟨#[48, 49, 50, 51, 52, 53, 54, 55, 56, 57, 65, 66, 67, 68, 69, 70]⟩ : ByteArray) (bt a0 1) t150 _ A7.out).mono ?_); rintro e w' ⟨rfl, ⟨nd, rfl⟩⟩; (try first | exact ⟨rfl, _, World.drewN_drewN _ _ _⟩ | exact ⟨rfl, _, Eq.trans (World.drewN_drewN _ _ _) (congrArg (World.drewN _) (Nat.add_assoc _ _ _))⟩)))
    repeat (go_quiet (first | (go_at_call 102; (with_reducible refine (strings_IndexByte.calls (⟨#[48, 49, 50, 51, 52, 53, 54, 55, 56, 57, 65, 66, 67, 68, 69, 70]⟩ : ByteArray) (bt a0 0) t149 _ A4.out).mono ?_); rintro e w' ⟨rfl, ⟨nd, rfl⟩⟩; (try first | exact ⟨rfl, _, World.drewN_drewN _ _ _⟩ | exact ⟨rfl, _, Eq.trans (World.drewN_drewN _ _ _) (congrArg (World.drewN _) (Nat.add_assoc _ _ _))⟩); have p6 : 0 ≤ (1 : Int) := (by omega); have q6 : 1 < a0.size := (by have : (1 : Int) < (a0.size : Int) := of_decide_eq_true (by first | (with_reducible assumption) | assumption); omega); have hx6 : ∀ h : 1 < a0.size, ((a0[1]'h).toNat : Int) = bt a0 1 := bt_at a0 1; clear p6; have qi6 : (1 < (a0.size : Int)) = True := eq_true (of_decide_eq_true (by first | (with_reducible assumption) | assumption)); replace q6 := eq_true q6) | (go_at_call 102; (with_reducible refine (strings_IndexByte.calls (⟨#[48, 49, 50, 51, 52, 53, 54, 55, 56, 57, 65, 66, 67, 68, 69, 70]⟩ : ByteArray) (bt a0 1) t150 _ A7.out).mono ?_); rintro e w' ⟨rfl, ⟨nd, rfl⟩⟩; (try first | exact ⟨rfl, _, World.drewN_drewN _ _ _⟩ | exact ⟨rfl, _, Eq.trans (World.drewN_drewN _ _ _) (congrArg (World.drewN _) (Nat.add_assoc _ _ _))⟩))); try go_wp2_with (first | (go_at_call 102; (with_reducible refine (strings_IndexByte.calls (⟨#[48, 49, 50, 51, 52, 53, 54, 55, 56, 57, 65, 66, 67, 68, 69, 70]⟩ : ByteArray) (bt a0 0) t149 _ A4.out).mono ?_); rintro e w' ⟨rfl, ⟨nd, rfl⟩⟩; (try first | exact ⟨rfl, _, World.drewN_drewN _ _ _⟩ | exact ⟨rfl, _, Eq.trans (World.drewN_drewN _ _ _) (congrArg (World.drewN _) (Nat.add_assoc _ _ _))⟩); have p6 : 0 ≤ (1 : Int) := (by omega); have q6 : 1 < a0.size := (by have : (1 : Int) < (a0.size : Int) := of_decide_eq_true (by first | (with_reducible assumption) | assumption); omega); have hx6 : ∀ h : 1 < a0.size, ((a0[1]'h).toNat : Int) = bt a0 1 := bt_at a0 1; clear p6; have qi6 : (1 < (a0.size : Int)) = True := eq_true (of_decide_eq_true (by first | (with_reducible assumption) | assumption)); replace q6 := eq_true q6) | (go_at_call 102; (with_reducible refine (strings_IndexByte.calls (⟨#[48, 49, 50, 51, 52, 53, 54, 55, 56, 57, 65, 66, 67, 68, 69, 70]⟩ : ByteArray) (bt a0 1) t150 _ A7.out).mono ?_); rintro e w' ⟨rfl, ⟨nd, rfl⟩⟩; (try first | exact ⟨rfl, _, World.drewN_drewN _ _ _⟩ | exact ⟨rfl, _, Eq.trans (World.drewN_drewN _ _ _) (congrArg (World.drewN _) (Nat.add_assoc _ _ _))⟩))))
    go_ret2
    exact ⟨by first | rfl | (simp; done) | (simp [*]; done) | (simp; exact (fun l : List UInt8 => (by cases l <;> rfl : l.isEmpty = !(l != []))) _), by repeat (first | exact Drawn0.refl _ | apply Drawn0.step)⟩
  ·rw [if_neg c5] at H
   exact absurd H (by simp)
 ·rw [if_neg c2] at H
  exact absurd H (by simp)

end Go.Proofs.YtndgaeldndgioaaGreatDoor.QAll
end

section
/- Walks, written by a program of this session (wip/pp): a Go function comes to what the Lean function beside it tells. -/
namespace Go.Proofs.YtndgaeldndgioaaGreatDoor.QAll
open Go.RowKit Go.Proofs.YtndgaeldndgioaaGreatDoorW.PrintWords Go.Proofs.YtndgaeldndgioaaGreatDoorW.PrintLast Go.Proofs.YtndgaeldndgioaaGreatDoorW.PrintMore
attribute [local go_sem] max2_int min2_int max_two min_two max_three min_three max_four min_four
set_option linter.unusedVariables false
set_option linter.unusedSimpArgs false

def script_texts.l0 : Nat → ByteArray → List Int → Int → Option (ByteArray × Bool)
 | 0, _, _, _ => none
 | k + 1, x0, x4, x5 => if x5 < (x0.size : Int) then (if 0 ≤ x5 then (if (bt x0 x5) = 37 then (if (wrap64 (x5 + 2)) ≥ (x0.size : Int) then (some ((⟨#[]⟩ : ByteArray), false)) else (if 0 ≤ (wrap64 (x5 + 1)) then (if (wrap64 (x5 + 1)) ≤ (wrap64 (x5 + 3)) then (if (wrap64 (x5 + 3)) ≤ (x0.size : Int) then ((script_value.f (x0.extract ((wrap64 (x5 + 1)) : Int).toNat ((wrap64 (x5 + 3)) : Int).toNat)).bind fun bt154 => (if bt154.2 = true then (if x4.length < 140737488355328 then (script_texts.l0 k x0 (x4 ++ [bt154.1]) (wrap64 ((wrap64 (x5 + 2)) + 1))) else (none)) else (some ((⟨#[]⟩ : ByteArray), false)))) else (none)) else (none)) else (none))) else (if x4.length < 140737488355328 then (script_texts.l0 k x0 (x4 ++ [bt x0 x5]) (wrap64 (x5 + 1))) else (none))) else (none)) else (some (strOfNums x4, true))
def script_texts.f (k : Nat) (a0 : ByteArray) : Option (ByteArray × Bool) := script_texts.l0 k a0 ([] : List Int) 0
set_option maxHeartbeats 8000000 in
set_option maxRecDepth 100000 in
theorem script_texts.calls (k : Nat) (a0 : ByteArray) (r1 : ByteArray) (r2 : Bool) (w : World) (h : script_texts.f k a0 = some (r1, r2)) :
  Calls Tryz.prog 76 #[.string a0] w fun e w' => e = .returned (.tuple #[.string r1, .bool r2]) ∧ Below w.heap.size w w' := by
 have HB := Aside0.mk (Below.refl w.heap.size w)
 have H : (script_texts.l0 k a0 ([] : List Int) 0) = some (r1, r2) := h
 clear h
 have H' := Aside0.mk H
 clear H
 go_enter Tryz.func76, Tryz.ntmps76
 go_wp2
 go_loopg [4, 5] k (fun kq v4 v5 w' => ∃ (x4_1 : List Int) (x5_1 : Int), v5 = .int .i64 x5_1 ∧ Aside0 (script_texts.l0 kq a0 x4_1 x5_1 = some (r1, r2)) ∧ Aside0 (kq ≤ k) ∧ Aside0 (Kd.R (Kd.int .u8) 5 w' w.heap.size (fun _ => True) v4 x4_1) ∧ Aside0 (Below w.heap.size w w'))
 case atStart => exact ⟨(([] : List Int)), (0), (by first | rfl | (simp; done) | (simp [*]; done) | (simp; exact (fun l : List UInt8 => (by cases l <;> rfl : l.isEmpty = !(l != []))) _)), H', ⟨Nat.le_refl _⟩, ⟨by first | exact Kd.R_nil _ _ _ _ _ | exact Kd.N_nil _ _ _ _ _ | exact Kd.V_nil _ _ _ _ _ | exact Kd.Q_nil _ _ _ _ _ | exact Kd.S_nil _ _ _ _ _⟩, ⟨by repeat (first | (with_reducible first | exact HB.out | apply below_alloc | apply pw_below_drewN | apply below_drew1) | exact HB.out)⟩⟩
 case round =>
  clear H'
  obtain ⟨x4_1, x5_1, rfl, HA, HK1, HO_4, HB⟩ := hrel
  cases gk with
  | zero => exact absurd HA.out (by simp [script_texts.l0])
  | succ k1 =>
   have H := HA.out
   clear HA
   simp only [script_texts.l0] at H
   by_cases c2 : x5_1 < (a0.size : Int)
   ·rw [if_pos c2] at H
    have c2b0 : decide (x5_1 < (a0.size : Int)) = true := decide_eq_true c2
    clear c2
    by_cases c3 : 0 ≤ x5_1
    ·rw [if_pos c3] at H
     have c3b0 : decide (0 ≤ x5_1) = true := decide_eq_true c3
     clear c3
     by_cases c5 : (bt a0 x5_1) = 37
     ·rw [if_pos c5] at H
      have c5b0 : ((bt a0 x5_1) == 37) = true := beq_iff_eq.mpr c5
      have c5b1 : ((bt a0 x5_1) != 37) = false := bne_eq_false_iff_eq.mpr c5
      clear c5
      by_cases c6 : (wrap64 (x5_1 + 2)) ≥ (a0.size : Int)
      ·rw [if_pos c6] at H
       have c6b0 : decide ((a0.size : Int) ≤ (wrap64 (x5_1 + 2))) = true := decide_eq_true c6
       clear c6
       simp only [Option.some.injEq, Prod.mk.injEq] at H
       obtain ⟨rfl, rfl⟩ := H
       have p4 : 0 ≤ (x5_1 : Int) := of_decide_eq_true (by first | (with_reducible assumption) | assumption)
       have q4 : x5_1 < (a0.size : Int) := of_decide_eq_true (by first | (with_reducible assumption) | assumption)
       have hx4 := bt_at a0 x5_1
       replace p4 := eq_true p4
       replace q4 := eq_true q4
       go_wp2
       go_ret2
       exact ⟨by first | rfl | (simp [errW_none, errW_some] <;> rfl) | (simp [*, errW_none, errW_some] <;> rfl), by repeat (first | (with_reducible first | exact HB.out | apply below_alloc | apply pw_below_drewN | apply below_drew1) | exact HB.out)⟩
      ·rw [if_neg c6] at H
       have c6b0 : decide ((a0.size : Int) ≤ (wrap64 (x5_1 + 2))) = false := decide_eq_false c6
       clear c6
       obtain ⟨ji7, hji7⟩ : ∃ j_ : Int, (wrap64 (x5_1 + 1)) = j_ := ⟨_, rfl⟩
       replace H : (if 0 ≤ (ji7) then (if (ji7) ≤ (wrap64 (x5_1 + 3)) then (if (wrap64 (x5_1 + 3)) ≤ (a0.size : Int) then ((script_value.f (a0.extract ((ji7) : Int).toNat ((wrap64 (x5_1 + 3)) : Int).toNat)).bind fun bt154 => (if bt154.2 = true then (if x4_1.length < 140737488355328 then (script_texts.l0 k1 a0 (x4_1 ++ [bt154.1]) (wrap64 ((wrap64 (x5_1 + 2)) + 1))) else (none)) else (some ((⟨#[]⟩ : ByteArray), false)))) else (none)) else (none)) else (none)) = some (r1, r2) := by first | (rw [hji7] at H; exact H) | (simp only [hji7] at H ⊢; exact H)
       have hji7w : (IntKind.i64.wrap (x5_1 + 1)) = ji7 := (i64_w _).trans hji7
       by_cases c8 : 0 ≤ (ji7)
       ·rw [if_pos c8] at H
        have c8b0 := eq_true c8
        have c8b1 : decide (0 ≤ (ji7)) = true := decide_eq_true c8
        clear c8
        by_cases c9 : (ji7) ≤ (wrap64 (x5_1 + 3))
        ·rw [if_pos c9] at H
         have c9b0 := eq_true c9
         have c9b1 : decide ((ji7) ≤ (wrap64 (x5_1 + 3))) = true := decide_eq_true c9
         by_cases c10 : (wrap64 (x5_1 + 3)) ≤ (a0.size : Int)
         ·rw [if_pos c10] at H
          have c10b0 := eq_true c10
          have c10b1 : decide ((wrap64 (x5_1 + 3)) ≤ (a0.size : Int)) = true := decide_eq_true c10
          replace H := Option.bind_eq_some_iff.mp H
          obtain ⟨⟨t154, t155⟩, A110, H⟩ := H
          replace H : (if t155 = true then (if x4_1.length < 140737488355328 then (script_texts.l0 k1 a0 (x4_1 ++ [t154]) (wrap64 ((wrap64 (x5_1 + 2)) + 1))) else (none)) else (some ((⟨#[]⟩ : ByteArray), false))) = some (r1, r2) := H
          have A11 := Aside0.mk A110
          clear A110
          by_cases c12 : t155 = true
          ·subst c12
           have H1 : (if x4_1.length < 140737488355328 then (script_texts.l0 k1 a0 (x4_1 ++ [t154]) (wrap64 ((wrap64 (x5_1 + 2)) + 1))) else (none)) = some (r1, r2) := by rw [if_pos rfl] at H; exact H
           clear H
           have H := H1
           clear H1
           by_cases c13 : x4_1.length < 140737488355328
           ·rw [if_pos c13] at H
            have LMc13 := Aside0.mk c13
            clear c13
            obtain ⟨y156, hy156⟩ : ∃ y_ : List Int, y_ = (x4_1 ++ [t154]) := ⟨_, rfl⟩
            replace H : (script_texts.l0 k1 a0 y156 (wrap64 ((wrap64 (x5_1 + 2)) + 1))) = some (r1, r2) := by first | (rw [hy156]; with_reducible exact H) | (have H2_ := (Option.bind_some _ _).symm.trans H; rw [hy156]; with_reducible exact H2_) | (have H2_ := (Option.bind_some _ _).symm.trans H; with_reducible exact H2_) | with_reducible exact H | (rw [hy156]; exact H) | exact H
            have Ny156 := Aside0.mk hy156
            clear hy156
            have H' := Aside0.mk H
            clear H
            have p4 : 0 ≤ (x5_1 : Int) := of_decide_eq_true (by first | (with_reducible assumption) | assumption)
            have q4 : x5_1 < (a0.size : Int) := of_decide_eq_true (by first | (with_reducible assumption) | assumption)
            have hx4 := bt_at a0 x5_1
            replace p4 := eq_true p4
            replace q4 := eq_true q4
            go_wp2_with (first | ((with_reducible refine gate_callee (f := 80) rfl ?_); refine goesL_ (some 36) rfl rfl Tryz.func80 (by kernel_rfl) rfl #[.string (a0.extract ((ji7) : Int).toNat ((wrap64 (x5_1 + 3)) : Int).toNat)] rfl (by (try simp only [List.map_toArray, List.map_cons, List.map_nil]); first | done | (simp only [hji7]; rfl) | rfl | (simp only [List.length_drop, List.length_take]; rfl)) ?_; (with_reducible refine (script_value.calls (a0.extract ((ji7) : Int).toNat ((wrap64 (x5_1 + 3)) : Int).toNat) t154 true _ A11.out).mono ?_); rintro e w' ⟨rfl, ⟨nd, rfl⟩⟩; refine ⟨_, rfl, ?_⟩) | ((with_reducible refine gate_builtin (b := .append) (xs := #[.tmp 41, .tmp 43]) rfl ?_); at_builtin; refine Kd.R_append (Kd.int .u8) (w0 := w) w.heap.size rfl (.tmp 41) (.tmp 43) 24 5 (.int .u8 0) 1 rfl Tryz.underlying24 info5 rfl (by decide) (by omega) u4 x4_1 t154 [.int .u8 t154] (fun _ => True) (fun _ => False) rfl rfl ?aP (fun _ hk => hk.elim) ?aF ?aO ?aB ?aS ?aL ?_; (case aP => exact rfl); (case aB => exact (by repeat (first | (with_reducible first | exact HB.out | apply below_alloc | apply pw_below_drewN | apply below_drew1) | exact HB.out))); (case aF => exact (fun _ _ => trivial)); (case aO => exact (by (with_reducible repeat (first | apply Kd.R_alloc | apply Kd.R_drewN | apply Kd.R_drew)); exact HO_4.out)); (case aS => exact (below_size (by repeat (first | (with_reducible first | exact HB.out | apply below_alloc | apply pw_below_drewN | apply below_drew1) | exact HB.out)))); (case aL => have := LMc13.out; omega); intro v157 w14 ho hb hg hat; rw [← Ny156.out] at ho; have n0_ := Aside0.mk (hb); have n1_ := Aside0.mk (ho); clear HB; clear HO_4; have HB := n0_; have HO158 := n1_; clear n0_ n1_; clear ho hb hg hat))
            go_roundg k1
            case measure => have := HK1.out; omega
            case rel => exact ⟨(y156), (wrap64 ((wrap64 (x5_1 + 2)) + 1)), (by first | rfl | (simp; done) | (simp [*]; done) | (simp; exact (fun l : List UInt8 => (by cases l <;> rfl : l.isEmpty = !(l != []))) _)), H', ⟨by have := HK1.out; omega⟩, ⟨by (with_reducible repeat (first | apply Kd.R_alloc | apply Kd.R_drewN | apply Kd.R_drew)); exact HO158.out⟩, ⟨by repeat (first | (with_reducible first | exact HB.out | apply below_alloc | apply pw_below_drewN | apply below_drew1) | exact HB.out)⟩⟩
           ·rw [if_neg c13] at H
            exact absurd H (by simp)
          ·replace c12 := Bool.eq_false_iff.mpr c12
           subst c12
           have H1 : (some ((⟨#[]⟩ : ByteArray), false)) = some (r1, r2) := by rw [if_neg (show ¬ (false = true) by decide)] at H; exact H
           clear H
           have H := H1
           clear H1
           simp only [Option.some.injEq, Prod.mk.injEq] at H
           obtain ⟨rfl, rfl⟩ := H
           have p4 : 0 ≤ (x5_1 : Int) := of_decide_eq_true (by first | (with_reducible assumption) | assumption)
           have q4 : x5_1 < (a0.size : Int) := of_decide_eq_true (by first | (with_reducible assumption) | assumption)
           have hx4 := bt_at a0 x5_1
           replace p4 := eq_true p4
           replace q4 := eq_true q4
           go_wp2_with (first | ((with_reducible refine gate_callee (f := 80) rfl ?_); refine goesL_ (some 36) rfl rfl Tryz.func80 (by kernel_rfl) rfl #[.string (a0.extract ((ji7) : Int).toNat ((wrap64 (x5_1 + 3)) : Int).toNat)] rfl (by (try simp only [List.map_toArray, List.map_cons, List.map_nil]); first | done | (simp only [hji7]; rfl) | rfl | (simp only [List.length_drop, List.length_take]; rfl)) ?_; (with_reducible refine (script_value.calls (a0.extract ((ji7) : Int).toNat ((wrap64 (x5_1 + 3)) : Int).toNat) t154 false _ A11.out).mono ?_); rintro e w' ⟨rfl, ⟨nd, rfl⟩⟩; refine ⟨_, rfl, ?_⟩))
           go_ret2
           exact ⟨by first | rfl | (simp [errW_none, errW_some] <;> rfl) | (simp only [← hji7]; first | rfl | (simp [errW_none, errW_some] <;> rfl)) | (simp [*, errW_none, errW_some] <;> rfl), by repeat (first | (with_reducible first | exact HB.out | apply below_alloc | apply pw_below_drewN | apply below_drew1) | exact HB.out)⟩
         ·rw [if_neg c10] at H
          exact absurd H (by simp)
        ·rw [if_neg c9] at H
         exact absurd H (by simp)
       ·rw [if_neg c8] at H
        exact absurd H (by simp)
     ·rw [if_neg c5] at H
      have c5b0 : ((bt a0 x5_1) == 37) = false := beq_eq_false_iff_ne.mpr c5
      have c5b1 : ((bt a0 x5_1) != 37) = true := bne_iff_ne.mpr c5
      by_cases c16 : x4_1.length < 140737488355328
      ·rw [if_pos c16] at H
       have LMc16 := Aside0.mk c16
       clear c16
       obtain ⟨y151, hy151⟩ : ∃ y_ : List Int, y_ = (x4_1 ++ [bt a0 x5_1]) := ⟨_, rfl⟩
       replace H : (script_texts.l0 k1 a0 y151 (wrap64 (x5_1 + 1))) = some (r1, r2) := by first | (rw [hy151]; with_reducible exact H) | (have H2_ := (Option.bind_some _ _).symm.trans H; rw [hy151]; with_reducible exact H2_) | (have H2_ := (Option.bind_some _ _).symm.trans H; with_reducible exact H2_) | with_reducible exact H | (rw [hy151]; exact H) | exact H
       have Ny151 := Aside0.mk hy151
       clear hy151
       have H' := Aside0.mk H
       clear H
       have p4 : 0 ≤ (x5_1 : Int) := of_decide_eq_true (by first | (with_reducible assumption) | assumption)
       have q4 : x5_1 < (a0.size : Int) := of_decide_eq_true (by first | (with_reducible assumption) | assumption)
       have hx4 := bt_at a0 x5_1
       replace p4 := eq_true p4
       replace q4 := eq_true q4
       have p15 : 0 ≤ (x5_1 : Int) := of_decide_eq_true (by first | (with_reducible assumption) | assumption)
       have q15 : x5_1 < (a0.size : Int) := of_decide_eq_true (by first | (with_reducible assumption) | assumption)
       have hx15 := bt_at a0 x5_1
       replace p15 := eq_true p15
       replace q15 := eq_true q15
       go_wp2_with (first | ((with_reducible refine gate_builtin (b := .append) (xs := #[.tmp 18, .tmp 22]) rfl ?_); at_builtin; refine Kd.R_append (Kd.int .u8) (w0 := w) w.heap.size rfl (.tmp 18) (.tmp 22) 24 5 (.int .u8 0) 1 rfl Tryz.underlying24 info5 rfl (by decide) (by omega) u4 x4_1 (bt a0 x5_1) [.int .u8 (bt a0 x5_1)] (fun _ => True) (fun _ => False) rfl rfl ?aP (fun _ hk => hk.elim) ?aF ?aO ?aB ?aS ?aL ?_; (case aP => exact rfl); (case aB => exact (by repeat (first | (with_reducible first | exact HB.out | apply below_alloc | apply pw_below_drewN | apply below_drew1) | exact HB.out))); (case aF => exact (fun _ _ => trivial)); (case aO => exact (by (with_reducible repeat (first | apply Kd.R_alloc | apply Kd.R_drewN | apply Kd.R_drew)); exact HO_4.out)); (case aS => exact (below_size (by repeat (first | (with_reducible first | exact HB.out | apply below_alloc | apply pw_below_drewN | apply below_drew1) | exact HB.out)))); (case aL => have := LMc16.out; omega); intro v152 w17 ho hb hg hat; rw [← Ny151.out] at ho; have n0_ := Aside0.mk (hb); have n1_ := Aside0.mk (ho); clear HB; clear HO_4; have HB := n0_; have HO153 := n1_; clear n0_ n1_; clear ho hb hg hat))
       go_roundg k1
       case measure => have := HK1.out; omega
       case rel => exact ⟨(y151), (wrap64 (x5_1 + 1)), (by first | rfl | (simp; done) | (simp [*]; done) | (simp; exact (fun l : List UInt8 => (by cases l <;> rfl : l.isEmpty = !(l != []))) _)), H', ⟨by have := HK1.out; omega⟩, ⟨by (with_reducible repeat (first | apply Kd.R_alloc | apply Kd.R_drewN | apply Kd.R_drew)); exact HO153.out⟩, ⟨by repeat (first | (with_reducible first | exact HB.out | apply below_alloc | apply pw_below_drewN | apply below_drew1) | exact HB.out)⟩⟩
      ·rw [if_neg c16] at H
       exact absurd H (by simp)
    ·rw [if_neg c3] at H
     exact absurd H (by simp)
   ·rw [if_neg c2] at H
    have c2b0 : decide (x5_1 < (a0.size : Int)) = false := decide_eq_false c2
    clear c2
    simp only [Option.some.injEq, Prod.mk.injEq] at H
    obtain ⟨rfl, rfl⟩ := H
    have hcv18 := own_string (P := Tryz.prog) Tryz.underlying24 Tryz.underlying5 Tryz.underlying9 (Kd.own_of_R HO_4.out)
    go_wp2
    go_ret2
    exact ⟨by first | rfl | (simp [errW_none, errW_some] <;> rfl) | (simp [*, errW_none, errW_some] <;> rfl), by repeat (first | (with_reducible first | exact HB.out | apply below_alloc | apply pw_below_drewN | apply below_drew1) | exact HB.out)⟩

end Go.Proofs.YtndgaeldndgioaaGreatDoor.QAll
end

section
/- Walks, written by a program of this session (wip/pp): a Go function comes to what the Lean function beside it tells. -/
namespace Go.Proofs.YtndgaeldndgioaaGreatDoor.QAll
open Go.RowKit Go.Proofs.YtndgaeldndgioaaGreatDoorW.PrintWords Go.Proofs.YtndgaeldndgioaaGreatDoorW.PrintLast Go.Proofs.YtndgaeldndgioaaGreatDoorW.PrintMore
attribute [local go_sem] max2_int min2_int max_two min_two max_three min_three max_four min_four
set_option linter.unusedVariables false
set_option linter.unusedSimpArgs false

def stringslite_HasPrefix.f (a0 : ByteArray) (a1 : ByteArray) : Option (Bool) := if (a0.size : Int) ≥ (a1.size : Int) then (if 0 ≤ (a1.size : Int) then (if (a1.size : Int) ≤ (a0.size : Int) then (some ((a0.extract 0 ((a1.size : Int) : Int).toNat).toList == a1.toList)) else (none)) else (none)) else (some false)
set_option maxHeartbeats 8000000 in
set_option maxRecDepth 100000 in
theorem stringslite_HasPrefix.calls (a0 : ByteArray) (a1 : ByteArray) (r : Bool) (w : World) (h : stringslite_HasPrefix.f a0 a1 = some r) :
  Calls Tryz.prog 100 #[.string a0, .string a1] w fun e w' => e = .returned (.bool r) ∧ Drawn0 w w' := by
 have H : (if (a0.size : Int) ≥ (a1.size : Int) then (if 0 ≤ (a1.size : Int) then (if (a1.size : Int) ≤ (a0.size : Int) then (some ((a0.extract 0 ((a1.size : Int) : Int).toNat).toList == a1.toList)) else (none)) else (none)) else (some false)) = some r := h
 clear h
 by_cases c3 : (a0.size : Int) ≥ (a1.size : Int)
 ·rw [if_pos c3] at H
  have c3b0 : decide ((a1.size : Int) ≤ (a0.size : Int)) = true := decide_eq_true c3
  have c3b1 : decide (a1.size ≤ a0.size) = true := decide_eq_true (Int.ofNat_le.mp c3)
  clear c3
  by_cases c4 : 0 ≤ (a1.size : Int)
  ·rw [if_pos c4] at H
   have c4b0 := eq_true c4
   have c4b1 : decide (0 ≤ (a1.size : Int)) = true := decide_eq_true c4
   clear c4
   by_cases c5 : (a1.size : Int) ≤ (a0.size : Int)
   ·rw [if_pos c5] at H
    have c5b0 := eq_true c5
    have c5b1 : decide ((a1.size : Int) ≤ (a0.size : Int)) = true := decide_eq_true c5
    clear c5
    obtain rfl := Option.some.inj H
    go_enter Tryz.func100, Tryz.ntmps100
    go_wp2
    go_ret
    exact ⟨by first | rfl | (simp; done) | (simp [*]; done) | (simp; exact (fun l : List UInt8 => (by cases l <;> rfl : l.isEmpty = !(l != []))) _), by repeat (first | exact Drawn0.refl _ | apply Drawn0.step)⟩
   ·rw [if_neg c5] at H
    exact absurd H (by simp)
  ·rw [if_neg c4] at H
   exact absurd H (by simp)
 ·rw [if_neg c3] at H
  have c3b0 : decide ((a1.size : Int) ≤ (a0.size : Int)) = false := decide_eq_false c3
  have c3b1 : decide (a1.size ≤ a0.size) = false := decide_eq_false (fun h => c3 (Int.ofNat_le.mpr h))
  clear c3
  obtain rfl := Option.some.inj H
  go_enter Tryz.func100, Tryz.ntmps100
  go_wp2
  go_ret
  exact ⟨by first | rfl | (simp; done) | (simp [*]; done) | (simp; exact (fun l : List UInt8 => (by cases l <;> rfl : l.isEmpty = !(l != []))) _), by repeat (first | exact Drawn0.refl _ | apply Drawn0.step)⟩

end Go.Proofs.YtndgaeldndgioaaGreatDoor.QAll
end

section
/- Walks, written by a program of this session (wip/pp): a Go function comes to what the Lean function beside it tells. -/
namespace Go.Proofs.YtndgaeldndgioaaGreatDoor.QAll
open Go.RowKit Go.Proofs.YtndgaeldndgioaaGreatDoorW.PrintWords Go.Proofs.YtndgaeldndgioaaGreatDoorW.PrintLast Go.Proofs.YtndgaeldndgioaaGreatDoorW.PrintMore
attribute [local go_sem] max2_int min2_int max_two min_two max_three min_three max_four min_four
set_option linter.unusedVariables false
set_option linter.unusedSimpArgs false

def stringslite_TrimPrefix.f (a0 : ByteArray) (a1 : ByteArray) : Option (ByteArray) := (stringslite_HasPrefix.f a0 a1).bind fun t159 => (if t159 = true then (if 0 ≤ (a1.size : Int) then (if (a1.size : Int) ≤ (a0.size : Int) then (some (a0.extract ((a1.size : Int) : Int).toNat a0.size)) else (none)) else (none)) else (some a0))
set_option maxHeartbeats 8000000 in
set_option maxRecDepth 100000 in
theorem stringslite_TrimPrefix.calls (a0 : ByteArray) (a1 : ByteArray) (r : ByteArray) (w : World) (h : stringslite_TrimPrefix.f a0 a1 = some r) :
  Calls Tryz.prog 99 #[.string a0, .string a1] w fun e w' => e = .returned (.string r) ∧ Drawn0 w w' := by
 have H : ((stringslite_HasPrefix.f a0 a1).bind fun t159 => (if t159 = true then (if 0 ≤ (a1.size : Int) then (if (a1.size : Int) ≤ (a0.size : Int) then (some (a0.extract ((a1.size : Int) : Int).toNat a0.size)) else (none)) else (none)) else (some a0))) = some r := h
 clear h
 replace H := Option.bind_eq_some_iff.mp H
 obtain ⟨t159, A30, H⟩ := H
 replace H : (if t159 = true then (if 0 ≤ (a1.size : Int) then (if (a1.size : Int) ≤ (a0.size : Int) then (some (a0.extract ((a1.size : Int) : Int).toNat a0.size)) else (none)) else (none)) else (some a0)) = some r := H
 have A3 := Aside0.mk A30
 clear A30
 by_cases c4 : t159 = true
 ·subst c4
  have H1 : (if 0 ≤ (a1.size : Int) then (if (a1.size : Int) ≤ (a0.size : Int) then (some (a0.extract ((a1.size : Int) : Int).toNat a0.size)) else (none)) else (none)) = some r := by rw [if_pos rfl] at H; exact H
  clear H
  have H := H1
  clear H1
  by_cases c5 : 0 ≤ (a1.size : Int)
  ·rw [if_pos c5] at H
   have c5b0 := eq_true c5
   have c5b1 : decide (0 ≤ (a1.size : Int)) = true := decide_eq_true c5
   clear c5
   by_cases c6 : (a1.size : Int) ≤ (a0.size : Int)
   ·rw [if_pos c6] at H
    have c6b0 := eq_true c6
    have c6b1 : decide ((a1.size : Int) ≤ (a0.size : Int)) = true := decide_eq_true c6
    clear c6
    obtain rfl := Option.some.inj H
    go_enter Tryz.func99, Tryz.ntmps99
    go_wp2_with (first | ((with_reducible refine gate_callee (f := 100) rfl ?_); refine goesL_ (some 7) rfl rfl Tryz.func100 (by kernel_rfl) rfl #[.string a0, .string a1] rfl (by (try simp only [List.map_toArray, List.map_cons, List.map_nil]); first | done | rfl | (simp only [List.length_drop, List.length_take]; rfl)) ?_; (with_reducible refine (stringslite_HasPrefix.calls a0 a1 true _ A3.out).mono ?_); rintro e w' ⟨rfl, ⟨nd, rfl⟩⟩; refine ⟨_, rfl, ?_⟩))
    go_ret
    exact ⟨by first | rfl | (simp; done) | (simp [*]; done) | (simp; exact (fun l : List UInt8 => (by cases l <;> rfl : l.isEmpty = !(l != []))) _), by repeat (first | exact Drawn0.refl _ | apply Drawn0.step)⟩
   ·rw [if_neg c6] at H
    exact absurd H (by simp)
  ·rw [if_neg c5] at H
   exact absurd H (by simp)
 ·replace c4 := Bool.eq_false_iff.mpr c4
  subst c4
  have H1 : (some a0) = some r := by rw [if_neg (show ¬ (false = true) by decide)] at H; exact H
  clear H
  have H := H1
  clear H1
  obtain rfl := Option.some.inj H
  go_enter Tryz.func99, Tryz.ntmps99
  go_wp2_with (first | ((with_reducible refine gate_callee (f := 100) rfl ?_); refine goesL_ (some 7) rfl rfl Tryz.func100 (by kernel_rfl) rfl #[.string a0, .string a1] rfl (by (try simp only [List.map_toArray, List.map_cons, List.map_nil]); first | done | rfl | (simp only [List.length_drop, List.length_take]; rfl)) ?_; (with_reducible refine (stringslite_HasPrefix.calls a0 a1 false _ A3.out).mono ?_); rintro e w' ⟨rfl, ⟨nd, rfl⟩⟩; refine ⟨_, rfl, ?_⟩))
  go_ret
  exact ⟨by first | rfl | (simp; done) | (simp [*]; done) | (simp; exact (fun l : List UInt8 => (by cases l <;> rfl : l.isEmpty = !(l != []))) _), by repeat (first | exact Drawn0.refl _ | apply Drawn0.step)⟩

end Go.Proofs.YtndgaeldndgioaaGreatDoor.QAll
end

section
/- Walks, written by a program of this session (wip/pp): a Go function comes to what the Lean function beside it tells. -/
namespace Go.Proofs.YtndgaeldndgioaaGreatDoor.QAll
open Go.RowKit Go.Proofs.YtndgaeldndgioaaGreatDoorW.PrintWords Go.Proofs.YtndgaeldndgioaaGreatDoorW.PrintLast Go.Proofs.YtndgaeldndgioaaGreatDoorW.PrintMore
attribute [local go_sem] max2_int min2_int max_two min_two max_three min_three max_four min_four
set_option linter.unusedVariables false
set_option linter.unusedSimpArgs false

def strings_TrimPrefix.f (a0 : ByteArray) (a1 : ByteArray) : Option (ByteArray) := (stringslite_TrimPrefix.f a0 a1).bind fun t160 => (some t160)
set_option maxHeartbeats 8000000 in
set_option maxRecDepth 100000 in
theorem strings_TrimPrefix.calls (a0 : ByteArray) (a1 : ByteArray) (r : ByteArray) (w : World) (h : strings_TrimPrefix.f a0 a1 = some r) :
  Calls Tryz.prog 77 #[.string a0, .string a1] w fun e w' => e = .returned (.string r) ∧ Drawn0 w w' := by
 have H : ((stringslite_TrimPrefix.f a0 a1).bind fun t160 => (some t160)) = some r := h
 clear h
 replace H := Option.bind_eq_some_iff.mp H
 obtain ⟨t160, A30, H⟩ := H
 replace H : (some t160) = some r := H
 have A3 := Aside0.mk A30
 clear A30
 obtain rfl := Option.some.inj H
 go_enter Tryz.func77, Tryz.ntmps77
 go_wp2_with (first | ((with_reducible refine gate_callee (f := 99) rfl ?_); refine goesL_ (some 7) rfl rfl Tryz.func99 (by kernel_rfl) rfl #[.string a0, .string a1] rfl (by (try simp only [List.map_toArray, List.map_cons, List.map_nil]); first | done | rfl | (simp only [List.length_drop, List.length_take]; rfl)) ?_; (with_reducible refine (stringslite_TrimPrefix.calls a0 a1 t160 _ A3.out).mono ?_); rintro e w' ⟨rfl, ⟨nd, rfl⟩⟩; refine ⟨_, rfl, ?_⟩))
 go_ret
 exact ⟨by first | rfl | (simp; done) | (simp [*]; done) | (simp; exact (fun l : List UInt8 => (by cases l <;> rfl : l.isEmpty = !(l != []))) _), by repeat (first | exact Drawn0.refl _ | apply Drawn0.step)⟩

end Go.Proofs.YtndgaeldndgioaaGreatDoor.QAll
end

section
/- Walks, written by a program of this session (wip/pp): a Go function comes to what the Lean function beside it tells. -/
namespace Go.Proofs.YtndgaeldndgioaaGreatDoor.QAll
open Go.RowKit Go.Proofs.YtndgaeldndgioaaGreatDoorW.PrintWords Go.Proofs.YtndgaeldndgioaaGreatDoorW.PrintLast Go.Proofs.YtndgaeldndgioaaGreatDoorW.PrintMore
attribute [local go_sem] max2_int min2_int max_two min_two max_three min_three max_four min_four
set_option linter.unusedVariables false
set_option linter.unusedSimpArgs false

def strings_HasPrefix.f (a0 : ByteArray) (a1 : ByteArray) : Option (Bool) := (stringslite_HasPrefix.f a0 a1).bind fun t161 => (some t161)
set_option maxHeartbeats 8000000 in
set_option maxRecDepth 100000 in
theorem strings_HasPrefix.calls (a0 : ByteArray) (a1 : ByteArray) (r : Bool) (w : World) (h : strings_HasPrefix.f a0 a1 = some r) :
  Calls Tryz.prog 78 #[.string a0, .string a1] w fun e w' => e = .returned (.bool r) ∧ Drawn0 w w' := by
 have H : ((stringslite_HasPrefix.f a0 a1).bind fun t161 => (some t161)) = some r := h
 clear h
 replace H := Option.bind_eq_some_iff.mp H
 obtain ⟨t161, A30, H⟩ := H
 replace H : (some t161) = some r := H
 have A3 := Aside0.mk A30
 clear A30
 obtain rfl := Option.some.inj H
 go_enter Tryz.func78, Tryz.ntmps78
 go_wp2_with (first | ((with_reducible refine gate_callee (f := 100) rfl ?_); refine goesL_ (some 7) rfl rfl Tryz.func100 (by kernel_rfl) rfl #[.string a0, .string a1] rfl (by (try simp only [List.map_toArray, List.map_cons, List.map_nil]); first | done | rfl | (simp only [List.length_drop, List.length_take]; rfl)) ?_; (with_reducible refine (stringslite_HasPrefix.calls a0 a1 t161 _ A3.out).mono ?_); rintro e w' ⟨rfl, ⟨nd, rfl⟩⟩; refine ⟨_, rfl, ?_⟩))
 go_ret
 exact ⟨by first | rfl | (simp; done) | (simp [*]; done) | (simp; exact (fun l : List UInt8 => (by cases l <;> rfl : l.isEmpty = !(l != []))) _), by repeat (first | exact Drawn0.refl _ | apply Drawn0.step)⟩

end Go.Proofs.YtndgaeldndgioaaGreatDoor.QAll
end

section
/- Walks, written by a program of this session (wip/pp): a Go function comes to what the Lean function beside it tells. -/
namespace Go.Proofs.YtndgaeldndgioaaGreatDoor.QAll
open Go.RowKit Go.Proofs.YtndgaeldndgioaaGreatDoorW.PrintWords Go.Proofs.YtndgaeldndgioaaGreatDoorW.PrintLast Go.Proofs.YtndgaeldndgioaaGreatDoorW.PrintMore
attribute [local go_sem] max2_int min2_int max_two min_two max_three min_three max_four min_four
set_option linter.unusedVariables false
set_option linter.unusedSimpArgs false

def stringslite_CutPrefix.f (a0 : ByteArray) (a1 : ByteArray) : Option (ByteArray × Bool) := (stringslite_HasPrefix.f a0 a1).bind fun t162 => (if t162 = true then (if 0 ≤ (a1.size : Int) then (if (a1.size : Int) ≤ (a0.size : Int) then (some (a0.extract ((a1.size : Int) : Int).toNat a0.size, true)) else (none)) else (none)) else (some (a0, false)))
set_option maxHeartbeats 8000000 in
set_option maxRecDepth 100000 in
theorem stringslite_CutPrefix.calls (a0 : ByteArray) (a1 : ByteArray) (r1 : ByteArray) (r2 : Bool) (w : World) (h : stringslite_CutPrefix.f a0 a1 = some (r1, r2)) :
  Calls Tryz.prog 101 #[.string a0, .string a1] w fun e w' => e = .returned (.tuple #[.string r1, .bool r2]) ∧ Drawn0 w w' := by
 have H : ((stringslite_HasPrefix.f a0 a1).bind fun t162 => (if t162 = true then (if 0 ≤ (a1.size : Int) then (if (a1.size : Int) ≤ (a0.size : Int) then (some (a0.extract ((a1.size : Int) : Int).toNat a0.size, true)) else (none)) else (none)) else (some (a0, false)))) = some (r1, r2) := h
 clear h
 replace H := Option.bind_eq_some_iff.mp H
 obtain ⟨t162, A30, H⟩ := H
 replace H : (if t162 = true then (if 0 ≤ (a1.size : Int) then (if (a1.size : Int) ≤ (a0.size : Int) then (some (a0.extract ((a1.size : Int) : Int).toNat a0.size, true)) else (none)) else (none)) else (some (a0, false))) = some (r1, r2) := H
 have A3 := Aside0.mk A30
 clear A30
 by_cases c4 : t162 = true
 ·subst c4
  have H1 : (if 0 ≤ (a1.size : Int) then (if (a1.size : Int) ≤ (a0.size : Int) then (some (a0.extract ((a1.size : Int) : Int).toNat a0.size, true)) else (none)) else (none)) = some (r1, r2) := by rw [if_pos rfl] at H; exact H
  clear H
  have H := H1
  clear H1
  by_cases c5 : 0 ≤ (a1.size : Int)
  ·rw [if_pos c5] at H
   have c5b0 := eq_true c5
   have c5b1 : decide (0 ≤ (a1.size : Int)) = true := decide_eq_true c5
   clear c5
   by_cases c6 : (a1.size : Int) ≤ (a0.size : Int)
   ·rw [if_pos c6] at H
    have c6b0 := eq_true c6
    have c6b1 : decide ((a1.size : Int) ≤ (a0.size : Int)) = true := decide_eq_true c6
    clear c6
    simp only [Option.some.injEq, Prod.mk.injEq] at H
    obtain ⟨rfl, rfl⟩ := H
    go_enter Tryz.func101, Tryz.ntmps101
    go_wp2_with (first | ((with_reducible refine gate_callee (f := 100) rfl ?_); refine goesL_ (some 8) rfl rfl Tryz.func100 (by kernel_rfl) rfl #[.string a0, .string a1] rfl (by (try simp only [List.map_toArray, List.map_cons, List.map_nil]); first | done | rfl | (simp only [List.length_drop, List.length_take]; rfl)) ?_; (with_reducible refine (stringslite_HasPrefix.calls a0 a1 true _ A3.out).mono ?_); rintro e w' ⟨rfl, ⟨nd, rfl⟩⟩; refine ⟨_, rfl, ?_⟩))
    go_ret2
    exact ⟨by first | rfl | (simp; done) | (simp [*]; done) | (simp; exact (fun l : List UInt8 => (by cases l <;> rfl : l.isEmpty = !(l != []))) _), by repeat (first | exact Drawn0.refl _ | apply Drawn0.step)⟩
   ·rw [if_neg c6] at H
    exact absurd H (by simp)
  ·rw [if_neg c5] at H
   exact absurd H (by simp)
 ·replace c4 := Bool.eq_false_iff.mpr c4
  subst c4
  have H1 : (some (a0, false)) = some (r1, r2) := by rw [if_neg (show ¬ (false = true) by decide)] at H; exact H
  clear H
  have H := H1
  clear H1
  simp only [Option.some.injEq, Prod.mk.injEq] at H
  obtain ⟨rfl, rfl⟩ := H
  go_enter Tryz.func101, Tryz.ntmps101
  go_wp2_with (first | ((with_reducible refine gate_callee (f := 100) rfl ?_); refine goesL_ (some 8) rfl rfl Tryz.func100 (by kernel_rfl) rfl #[.string a0, .string a1] rfl (by (try simp only [List.map_toArray, List.map_cons, List.map_nil]); first | done | rfl | (simp only [List.length_drop, List.length_take]; rfl)) ?_; (with_reducible refine (stringslite_HasPrefix.calls a0 a1 false _ A3.out).mono ?_); rintro e w' ⟨rfl, ⟨nd, rfl⟩⟩; refine ⟨_, rfl, ?_⟩))
  go_ret2
  exact ⟨by first | rfl | (simp; done) | (simp [*]; done) | (simp; exact (fun l : List UInt8 => (by cases l <;> rfl : l.isEmpty = !(l != []))) _), by repeat (first | exact Drawn0.refl _ | apply Drawn0.step)⟩

end Go.Proofs.YtndgaeldndgioaaGreatDoor.QAll
end

section
/- Walks, written by a program of this session (wip/pp): a Go function comes to what the Lean function beside it tells. -/
namespace Go.Proofs.YtndgaeldndgioaaGreatDoor.QAll
open Go.RowKit Go.Proofs.YtndgaeldndgioaaGreatDoorW.PrintWords Go.Proofs.YtndgaeldndgioaaGreatDoorW.PrintLast Go.Proofs.YtndgaeldndgioaaGreatDoorW.PrintMore
attribute [local go_sem] max2_int min2_int max_two min_two max_three min_three max_four min_four
set_option linter.unusedVariables false
set_option linter.unusedSimpArgs false

def strings_CutPrefix.f (a0 : ByteArray) (a1 : ByteArray) : Option (ByteArray × Bool) := (stringslite_CutPrefix.f a0 a1).bind fun bt163 => (some (bt163.1, bt163.2))
set_option maxHeartbeats 8000000 in
set_option maxRecDepth 100000 in
theorem strings_CutPrefix.calls (a0 : ByteArray) (a1 : ByteArray) (r1 : ByteArray) (r2 : Bool) (w : World) (h : strings_CutPrefix.f a0 a1 = some (r1, r2)) :
  Calls Tryz.prog 79 #[.string a0, .string a1] w fun e w' => e = .returned (.tuple #[.string r1, .bool r2]) ∧ Drawn0 w w' := by
 have H : ((stringslite_CutPrefix.f a0 a1).bind fun bt163 => (some (bt163.1, bt163.2))) = some (r1, r2) := h
 clear h
 replace H := Option.bind_eq_some_iff.mp H
 obtain ⟨⟨t163, t164⟩, A30, H⟩ := H
 replace H : (some (t163, t164)) = some (r1, r2) := H
 have A3 := Aside0.mk A30
 clear A30
 simp only [Option.some.injEq, Prod.mk.injEq] at H
 obtain ⟨rfl, rfl⟩ := H
 go_enter Tryz.func79, Tryz.ntmps79
 go_wp2_with (first | ((with_reducible refine gate_callee (f := 101) rfl ?_); refine goesL_ (some 8) rfl rfl Tryz.func101 (by kernel_rfl) rfl #[.string a0, .string a1] rfl (by (try simp only [List.map_toArray, List.map_cons, List.map_nil]); first | done | rfl | (simp only [List.length_drop, List.length_take]; rfl)) ?_; (with_reducible refine (stringslite_CutPrefix.calls a0 a1 t163 t164 _ A3.out).mono ?_); rintro e w' ⟨rfl, ⟨nd, rfl⟩⟩; refine ⟨_, rfl, ?_⟩))
 go_ret2
 exact ⟨by first | rfl | (simp; done) | (simp [*]; done) | (simp; exact (fun l : List UInt8 => (by cases l <;> rfl : l.isEmpty = !(l != []))) _), by repeat (first | exact Drawn0.refl _ | apply Drawn0.step)⟩

end Go.Proofs.YtndgaeldndgioaaGreatDoor.QAll
end

section
/- script.set, walked by hand: an event's block, one part of it set by its word. -/
set_option linter.unusedVariables false
set_option linter.unusedSimpArgs false
namespace Go.Proofs.YtndgaeldndgioaaGreatDoor.QAll
open Go.RowKit Go.Proofs.YtndgaeldndgioaaGreatDoorW.PrintWords Go.Proofs.YtndgaeldndgioaaGreatDoorW.PrintLast Go.Proofs.YtndgaeldndgioaaGreatDoorW.PrintMore
open Go.Proofs.YtndgaeldndgioaaGreatDoor.Fl

/-- The event's block g, its draws a row of the call's own (base B, not in block g), and what else is there. -/
def EB (T : Nat × Obj) (B g : Nat) (e : Ev) (W : World) : Prop :=
  ∃ v, Kd.R (Kd.int .u8) 5 W B (fun i => i ≠ g ∧ i ≠ T.1) v e.d ∧ W.heap[g]? = some (.cells #[.int .i64 e.k, .int .i64 e.a, .int .i64 e.b, .int .i64 e.n, .int .i64 e.m, .string e.s, .complex .f64 (fl e.x) (fl e.y), v] 26 (0, 0)) ∧ B ≤ g ∧ W.heap[T.1]? = some T.2 ∧ g < T.1
/-- Behind a call that may write the event's block and its draws alone: what is below B stays. -/
theorem EB_below {T : Nat × Obj} {B g : Nat} {e : Ev} {W W' : World} (h : EB T B g e W) (hb : Below W.heap.size W W') : EB T B g e W' := by
  obtain ⟨v, h1, h2, h3⟩ := h
  exact ⟨v, Kd.R_below h1 hb, (hb.block _ (lt_of_some h2)).trans h2, h3.1, (hb.block _ (lt_of_some h3.2.1)).trans h3.2.1, h3.2.2⟩
theorem EB_le {T : Nat × Obj} {B g : Nat} {e : Ev} {W : World} (h : EB T B g e W) : B ≤ W.heap.size := by
  obtain ⟨_, _, h2, h3, _⟩ := h
  have := lt_of_some h2
  omega
theorem EB_leg {T : Nat × Obj} {B g : Nat} {e : Ev} {W : World} (h : EB T B g e W) : B ≤ g := by
  obtain ⟨_, _, _, h3, _⟩ := h
  exact h3
theorem EB_k3 {T : Nat × Obj} {B g : Nat} {W : World} (h : B ≤ g ∧ W.heap[T.1]? = some T.2 ∧ g < T.1) (j : Nat) (u : Value) : B ≤ g ∧ (W.setCell ⟨g, j, none⟩ u).heap[T.1]? = some T.2 ∧ g < T.1 := by
  refine ⟨h.1, ?_, h.2.2⟩
  have := h.2.2
  have hne : ¬ g = T.1 := by omega
  simp [World.setCell, Array.getElem?_modify, hne, h.2.1]
theorem EB_setS {T : Nat × Obj} {B g : Nat} {e : Ev} {W : World} (h : EB T B g e W) (t : ByteArray) : EB T B g { e with s := t } (W.setCell ⟨g, 5, none⟩ (.string t)) := by
  obtain ⟨v, h1, h2, h3⟩ := h
  exact ⟨v, Kd.R_far h1 (p := ⟨g, 5, none⟩) (fun k hk => hk.1) _, by simp [World.setCell, Array.getElem?_modify, h2], EB_k3 h3 _ _⟩
theorem EB_cells {T : Nat × Obj} {B g : Nat} {e : Ev} {W : World} (h : EB T B g e W) : ∃ v, (W.cell? ⟨g, 0, none⟩ = some (.int .i64 e.k) ∧ W.cell? ⟨g, 5, none⟩ = some (.string e.s) ∧ W.cell? ⟨g, 6, none⟩ = some (.complex .f64 (fl e.x) (fl e.y)) ∧ W.cell? ⟨g, 7, none⟩ = some v) ∧ ∀ i, W.frozen? ⟨g, i, none⟩ = false := by
  obtain ⟨v, h1, h2, h3⟩ := h
  obtain ⟨k0, k1, k2, k3, k4, k5, k6, k7⟩ := cells8 h2
  exact ⟨v, ⟨k0, k5, k6, k7⟩, fun i => Lib.frozen_of_heap h2 i⟩
set_option maxHeartbeats 8000000 in
set_option maxRecDepth 100000 in
theorem set_S {T : Nat × Obj} (B g : Nat) (e : Ev) (wd : ByteArray) (K : Nat) (t1 : ByteArray) (t2 : Bool) (t0 : ByteArray) (pf : Bool) (w : World) (hB : EB T B g e w) (h0 : strings_TrimPrefix.f wd ⟨#[61]⟩ = some t0) (h1 : script_texts.f K t0 = some (t1, t2)) (h2 : strings_HasPrefix.f wd ⟨#[61]⟩ = some pf) :
    Calls Tryz.prog 51 #[.pointer (some ⟨g, 0, none⟩), .int .i32 83, .string wd] w fun r w' => r = .returned (.bool (t2 && pf)) ∧ EB T B g { e with s := t1 } w' ∧ Below B w w' := by
  have HE := Aside0.mk hB
  have H0 := Aside0.mk h0
  have H1 := Aside0.mk h1
  have H2 := Aside0.mk h2
  clear hB h0 h1 h2
  go_enter Tryz.func51, Tryz.ntmps51
  go_wp2_with (fail)
  (with_reducible refine (strings_TrimPrefix.calls wd ⟨#[61]⟩ t0 _ H0.out).mono ?_)
  rintro r w1 ⟨rfl, hd1⟩
  have HE1 := Aside0.mk (EB_below HE.out hd1.below)
  have HB1 := Aside0.mk (hd1.below.mono (EB_le HE.out))
  clear hd1
  go_wp2_with (fail)
  (with_reducible refine (script_texts.calls K t0 t1 t2 _ H1.out).mono ?_)
  rintro r w2 ⟨rfl, hb2⟩
  have HE2 := Aside0.mk (EB_below HE1.out hb2)
  have HB2 := Aside0.mk (HB1.out.trans (hb2.mono (EB_le HE1.out)))
  clear hb2
  obtain ⟨v, ⟨k0, k5, k6, k7⟩, kf⟩ := EB_cells HE2.out
  have f5 := kf 5
  clear kf
  cases t2 with
  | true =>
    go_wp2_with (first | (go_at_call 78; (with_reducible refine (strings_HasPrefix.calls wd ⟨#[61]⟩ pf _ H2.out).mono ?_); rintro r w3 ⟨rfl, ⟨nd, rfl⟩⟩))
    go_ret
    exact ⟨by simp, EB_setS HE2.out t1, by repeat (first | (with_reducible first | exact HB2.out.setCell (p := ⟨g, 5, none⟩) (EB_leg HE.out) _ | apply pw_below_drewN) | exact HB2.out.setCell (p := ⟨g, 5, none⟩) (EB_leg HE.out) _)⟩
  | false =>
    go_wp2_with (fail)
    go_ret
    exact ⟨by simp, EB_setS HE2.out t1, by repeat (first | (with_reducible first | exact HB2.out.setCell (p := ⟨g, 5, none⟩) (EB_leg HE.out) _ | apply pw_below_drewN) | exact HB2.out.setCell (p := ⟨g, 5, none⟩) (EB_leg HE.out) _)⟩
end Go.Proofs.YtndgaeldndgioaaGreatDoor.QAll
end

section
/- strconv.Atoi of any text: the number, and no error; or an error. -/
set_option linter.unusedVariables false
set_option linter.unusedSimpArgs false
namespace Go.Proofs.YtndgaeldndgioaaGreatDoor.QAll
open Go.RowKit Go.Proofs.YtndgaeldndgioaaGreatDoorW.PrintWords Go.Proofs.YtndgaeldndgioaaGreatDoorW.PrintLast Go.Proofs.YtndgaeldndgioaaGreatDoorW.PrintMore
/-- The number that a text is, if it is one. -/
def atoiV (s : ByteArray) : Option Int := match Lib.atoiAll s.data.toList with
  | .ok v => some v
  | _ => none
theorem atoi_any (s : ByteArray) (hs : s.size ≤ 1000000) (w : World) (hE : EnvW w) :
    Calls Tryz.prog 69 #[.string s] w fun e w' => Below w.heap.size w w' ∧ match atoiV s with
      | some v => e = .returned (.tuple #[.int .i64 v, .nilIface])
      | none => ∃ v N, e = .returned (.tuple #[.int .i64 v, .iface 212 (.pointer (some ⟨N, 0, none⟩))]) := by
  unfold atoiV
  by_cases h : ∃ v, Lib.atoiAll s.data.toList = .ok v
  · obtain ⟨v, hv⟩ := h
    rw [hv]
    refine (Tryz.strconv_Atoi_ok s (by omega) v hv w).mono ?_
    rintro e w' ⟨rfl, h⟩
    refine ⟨?_, rfl⟩
    rcases h with rfl | ⟨t, rfl⟩
    · exact Below.refl _ _
    · exact bytes_below (Below.refl _ _) (Nat.le_refl _) _ _
  · have h1 : ∀ v, Lib.atoiAll s.data.toList ≠ .ok v := fun v e => h ⟨v, e⟩
    have hn : (match Lib.atoiAll s.data.toList with
      | .ok v => some v
      | _ => (none : Option Int)) = none := by
      cases e : Lib.atoiAll s.data.toList <;> first | rfl | exact absurd e (h1 _)
    rw [hn]
    by_cases h2 : Lib.atoiAll s.data.toList = .range
    · obtain ⟨ev, he1, he2⟩ := hE.rng
      refine (Tryz.strconv_Atoi_range s (by omega) h2 ev w he1 he2).mono ?_
      rintro e w' ⟨N, rfl, _, _, hb⟩
      exact ⟨hb, _, N, rfl⟩
    · obtain ⟨ev, he1, he2⟩ := hE.syn
      refine (Tryz.strconv_Atoi_bad s (by omega) h1 h2 ev w he1 he2).mono ?_
      rintro e w' ⟨N, rfl, _, _, hb⟩
      exact ⟨hb, _, N, rfl⟩
end Go.Proofs.YtndgaeldndgioaaGreatDoor.QAll
end

section
/- script.set of a number, walked by hand. -/
set_option linter.unusedVariables false
set_option linter.unusedSimpArgs false
namespace Go.Proofs.YtndgaeldndgioaaGreatDoor.QAll
open Go.RowKit Go.Proofs.YtndgaeldndgioaaGreatDoorW.PrintWords Go.Proofs.YtndgaeldndgioaaGreatDoorW.PrintLast Go.Proofs.YtndgaeldndgioaaGreatDoorW.PrintMore
open Go.Proofs.YtndgaeldndgioaaGreatDoor.Fl

theorem EB_setA {T : Nat × Obj} {B g : Nat} {e : Ev} {W : World} (h : EB T B g e W) (t : Int) : EB T B g { e with a := t } (W.setCell ⟨g, 1, none⟩ (.int .i64 t)) := by
  obtain ⟨v, h1, h2, h3⟩ := h
  exact ⟨v, Kd.R_far h1 (p := ⟨g, 1, none⟩) (fun k hk => hk.1) _, by simp [World.setCell, Array.getElem?_modify, h2], EB_k3 h3 _ _⟩
set_option maxHeartbeats 8000000 in
set_option maxRecDepth 100000 in
theorem set_A {T : Nat × Obj} (B g : Nat) (e : Ev) (wd : ByteArray) (v : Int) (w : World) (hE : EnvW w) (hB : EB T B g e w) (hs : wd.size ≤ 1000000) (h : atoiV wd = some v) (h0 : -9999 ≤ v) (h1 : v ≤ 9999) :
    Calls Tryz.prog 51 #[.pointer (some ⟨g, 0, none⟩), .int .i32 65, .string wd] w fun r w' => r = .returned (.bool true) ∧ EB T B g { e with a := v } w' ∧ Below B w w' := by
  have HE := Aside0.mk hB
  have HN := Aside0.mk hE
  have HA := Aside0.mk h
  clear hB hE h
  have p1 : decide (v < -9999) = false := decide_eq_false (by omega)
  have p2 : decide (v > 9999) = false := decide_eq_false (by omega)
  have hcall := fun W => number_calls g 65 W
  rw [show offI 65 = 1 from rfl] at hcall
  go_enter Tryz.func51, Tryz.ntmps51
  go_wp2_with (fail)
  (with_reducible refine (atoi_any wd hs _ HN.out).mono ?_)
  rintro r w1 ⟨hb1, hr⟩
  rw [HA.out] at hr
  subst hr
  have HE1 := Aside0.mk (EB_below HE.out hb1)
  have HB1 := Aside0.mk (hb1.mono (EB_le HE.out))
  clear hb1
  obtain ⟨q0, q1, q2, q3⟩ := HE1.out
  have hcl := cells8 q2
  obtain ⟨k0, k1, k2, k3, k4, k5, k6, k7⟩ := hcl
  have f5 := Lib.frozen_of_heap q2 1
  clear q1 q2 q3
  go_wp2_with (first | (go_at_call 81; (with_reducible refine (hcall _).mono ?_); rintro r w3 ⟨rfl, ⟨nd, rfl⟩⟩))
  all_goals (go_ret; exact ⟨rfl, EB_setA (show EB T B g e (w1.drewN nd) from HE1.out) v, Below.setCell (show Below B w (w1.drewN nd) from pw_below_drewN HB1.out nd) (p := ⟨g, 1, none⟩) (EB_leg HE.out) _⟩)

theorem EB_setB {T : Nat × Obj} {B g : Nat} {e : Ev} {W : World} (h : EB T B g e W) (t : Int) : EB T B g { e with b := t } (W.setCell ⟨g, 2, none⟩ (.int .i64 t)) := by
  obtain ⟨v, h1, h2, h3⟩ := h
  exact ⟨v, Kd.R_far h1 (p := ⟨g, 2, none⟩) (fun k hk => hk.1) _, by simp [World.setCell, Array.getElem?_modify, h2], EB_k3 h3 _ _⟩
set_option maxHeartbeats 8000000 in
set_option maxRecDepth 100000 in
theorem set_B {T : Nat × Obj} (B g : Nat) (e : Ev) (wd : ByteArray) (v : Int) (w : World) (hE : EnvW w) (hB : EB T B g e w) (hs : wd.size ≤ 1000000) (h : atoiV wd = some v) (h0 : -9999 ≤ v) (h1 : v ≤ 9999) :
    Calls Tryz.prog 51 #[.pointer (some ⟨g, 0, none⟩), .int .i32 66, .string wd] w fun r w' => r = .returned (.bool true) ∧ EB T B g { e with b := v } w' ∧ Below B w w' := by
  have HE := Aside0.mk hB
  have HN := Aside0.mk hE
  have HA := Aside0.mk h
  clear hB hE h
  have p1 : decide (v < -9999) = false := decide_eq_false (by omega)
  have p2 : decide (v > 9999) = false := decide_eq_false (by omega)
  have hcall := fun W => number_calls g 66 W
  rw [show offI 66 = 2 from rfl] at hcall
  go_enter Tryz.func51, Tryz.ntmps51
  go_wp2_with (fail)
  (with_reducible refine (atoi_any wd hs _ HN.out).mono ?_)
  rintro r w1 ⟨hb1, hr⟩
  rw [HA.out] at hr
  subst hr
  have HE1 := Aside0.mk (EB_below HE.out hb1)
  have HB1 := Aside0.mk (hb1.mono (EB_le HE.out))
  clear hb1
  obtain ⟨q0, q1, q2, q3⟩ := HE1.out
  have hcl := cells8 q2
  obtain ⟨k0, k1, k2, k3, k4, k5, k6, k7⟩ := hcl
  have f5 := Lib.frozen_of_heap q2 2
  clear q1 q2 q3
  go_wp2_with (first | (go_at_call 81; (with_reducible refine (hcall _).mono ?_); rintro r w3 ⟨rfl, ⟨nd, rfl⟩⟩))
  all_goals (go_ret; exact ⟨rfl, EB_setB (show EB T B g e (w1.drewN nd) from HE1.out) v, Below.setCell (show Below B w (w1.drewN nd) from pw_below_drewN HB1.out nd) (p := ⟨g, 2, none⟩) (EB_leg HE.out) _⟩)

theorem EB_setN {T : Nat × Obj} {B g : Nat} {e : Ev} {W : World} (h : EB T B g e W) (t : Int) : EB T B g { e with n := t } (W.setCell ⟨g, 3, none⟩ (.int .i64 t)) := by
  obtain ⟨v, h1, h2, h3⟩ := h
  exact ⟨v, Kd.R_far h1 (p := ⟨g, 3, none⟩) (fun k hk => hk.1) _, by simp [World.setCell, Array.getElem?_modify, h2], EB_k3 h3 _ _⟩
set_option maxHeartbeats 8000000 in
set_option maxRecDepth 100000 in
theorem set_N {T : Nat × Obj} (B g : Nat) (e : Ev) (wd : ByteArray) (v : Int) (w : World) (hE : EnvW w) (hB : EB T B g e w) (hs : wd.size ≤ 1000000) (h : atoiV wd = some v) (h0 : -9999 ≤ v) (h1 : v ≤ 9999) :
    Calls Tryz.prog 51 #[.pointer (some ⟨g, 0, none⟩), .int .i32 78, .string wd] w fun r w' => r = .returned (.bool true) ∧ EB T B g { e with n := v } w' ∧ Below B w w' := by
  have HE := Aside0.mk hB
  have HN := Aside0.mk hE
  have HA := Aside0.mk h
  clear hB hE h
  have p1 : decide (v < -9999) = false := decide_eq_false (by omega)
  have p2 : decide (v > 9999) = false := decide_eq_false (by omega)
  have hcall := fun W => number_calls g 78 W
  rw [show offI 78 = 3 from rfl] at hcall
  go_enter Tryz.func51, Tryz.ntmps51
  go_wp2_with (fail)
  (with_reducible refine (atoi_any wd hs _ HN.out).mono ?_)
  rintro r w1 ⟨hb1, hr⟩
  rw [HA.out] at hr
  subst hr
  have HE1 := Aside0.mk (EB_below HE.out hb1)
  have HB1 := Aside0.mk (hb1.mono (EB_le HE.out))
  clear hb1
  obtain ⟨q0, q1, q2, q3⟩ := HE1.out
  have hcl := cells8 q2
  obtain ⟨k0, k1, k2, k3, k4, k5, k6, k7⟩ := hcl
  have f5 := Lib.frozen_of_heap q2 3
  clear q1 q2 q3
  go_wp2_with (first | (go_at_call 81; (with_reducible refine (hcall _).mono ?_); rintro r w3 ⟨rfl, ⟨nd, rfl⟩⟩))
  all_goals (go_ret; exact ⟨rfl, EB_setN (show EB T B g e (w1.drewN nd) from HE1.out) v, Below.setCell (show Below B w (w1.drewN nd) from pw_below_drewN HB1.out nd) (p := ⟨g, 3, none⟩) (EB_leg HE.out) _⟩)

theorem EB_setM {T : Nat × Obj} {B g : Nat} {e : Ev} {W : World} (h : EB T B g e W) (t : Int) : EB T B g { e with m := t } (W.setCell ⟨g, 4, none⟩ (.int .i64 t)) := by
  obtain ⟨v, h1, h2, h3⟩ := h
  exact ⟨v, Kd.R_far h1 (p := ⟨g, 4, none⟩) (fun k hk => hk.1) _, by simp [World.setCell, Array.getElem?_modify, h2], EB_k3 h3 _ _⟩
set_option maxHeartbeats 8000000 in
set_option maxRecDepth 100000 in
theorem set_M {T : Nat × Obj} (B g : Nat) (e : Ev) (wd : ByteArray) (v : Int) (w : World) (hE : EnvW w) (hB : EB T B g e w) (hs : wd.size ≤ 1000000) (h : atoiV wd = some v) (h0 : -9999 ≤ v) (h1 : v ≤ 9999) :
    Calls Tryz.prog 51 #[.pointer (some ⟨g, 0, none⟩), .int .i32 77, .string wd] w fun r w' => r = .returned (.bool true) ∧ EB T B g { e with m := v } w' ∧ Below B w w' := by
  have HE := Aside0.mk hB
  have HN := Aside0.mk hE
  have HA := Aside0.mk h
  clear hB hE h
  have p1 : decide (v < -9999) = false := decide_eq_false (by omega)
  have p2 : decide (v > 9999) = false := decide_eq_false (by omega)
  have hcall := fun W => number_calls g 77 W
  rw [show offI 77 = 4 from rfl] at hcall
  go_enter Tryz.func51, Tryz.ntmps51
  go_wp2_with (fail)
  (with_reducible refine (atoi_any wd hs _ HN.out).mono ?_)
  rintro r w1 ⟨hb1, hr⟩
  rw [HA.out] at hr
  subst hr
  have HE1 := Aside0.mk (EB_below HE.out hb1)
  have HB1 := Aside0.mk (hb1.mono (EB_le HE.out))
  clear hb1
  obtain ⟨q0, q1, q2, q3⟩ := HE1.out
  have hcl := cells8 q2
  obtain ⟨k0, k1, k2, k3, k4, k5, k6, k7⟩ := hcl
  have f5 := Lib.frozen_of_heap q2 4
  clear q1 q2 q3
  go_wp2_with (first | (go_at_call 81; (with_reducible refine (hcall _).mono ?_); rintro r w3 ⟨rfl, ⟨nd, rfl⟩⟩))
  all_goals (go_ret; exact ⟨rfl, EB_setM (show EB T B g e (w1.drewN nd) from HE1.out) v, Below.setCell (show Below B w (w1.drewN nd) from pw_below_drewN HB1.out nd) (p := ⟨g, 4, none⟩) (EB_leg HE.out) _⟩)

end Go.Proofs.YtndgaeldndgioaaGreatDoor.QAll
end

section
/- script.set of a part of Z, and of what is no number, walked by hand. -/
set_option linter.unusedVariables false
set_option linter.unusedSimpArgs false
namespace Go.Proofs.YtndgaeldndgioaaGreatDoor.QAll
open Go.RowKit Go.Proofs.YtndgaeldndgioaaGreatDoorW.PrintWords Go.Proofs.YtndgaeldndgioaaGreatDoorW.PrintLast Go.Proofs.YtndgaeldndgioaaGreatDoorW.PrintMore
open Go.Proofs.YtndgaeldndgioaaGreatDoor.Fl
theorem run_store_complex (P : Program) (w : World) (a : Addr) (k : FloatKind) (x y : Nat) (m : Mode) : (store a (.complex k x y) m).run P w = stored P w a (.complex k x y) m := run_store P w a _ m rfl
attribute [local go_sem] run_store_complex

theorem EB_setX {T : Nat × Obj} {B g : Nat} {e : Ev} {W : World} (h : EB T B g e W) (t : Int) : EB T B g { e with x := t } (W.setCell ⟨g, 6, none⟩ (.complex .f64 (fl t) (fl e.y))) := by
  obtain ⟨v, h1, h2, h3⟩ := h
  exact ⟨v, Kd.R_far h1 (p := ⟨g, 6, none⟩) (fun k hk => hk.1) _, by simp [World.setCell, Array.getElem?_modify, h2], EB_k3 h3 _ _⟩
set_option maxHeartbeats 8000000 in
set_option maxRecDepth 100000 in
theorem set_X {T : Nat × Obj} (B g : Nat) (e : Ev) (wd : ByteArray) (v : Int) (w : World) (hE : EnvW w) (hB : EB T B g e w) (hs : wd.size ≤ 1000000) (h : atoiV wd = some v) (h0 : -9999 ≤ v) (h1 : v ≤ 9999) :
    Calls Tryz.prog 51 #[.pointer (some ⟨g, 0, none⟩), .int .i32 88, .string wd] w fun r w' => r = .returned (.bool true) ∧ EB T B g { e with x := v } w' ∧ Below B w w' := by
  have HE := Aside0.mk hB
  have HN := Aside0.mk hE
  have HA := Aside0.mk h
  clear hB hE h
  have p1 : decide (v < -9999) = false := decide_eq_false (by omega)
  have p2 : decide (v > 9999) = false := decide_eq_false (by omega)
  go_enter Tryz.func51, Tryz.ntmps51
  go_wp2_with (fail)
  (with_reducible refine (atoi_any wd hs _ HN.out).mono ?_)
  rintro r w1 ⟨hb1, hr⟩
  rw [HA.out] at hr
  subst hr
  have HE1 := Aside0.mk (EB_below HE.out hb1)
  have HB1 := Aside0.mk (hb1.mono (EB_le HE.out))
  clear hb1
  obtain ⟨q0, q1, q2, q3⟩ := HE1.out
  obtain ⟨k0, k1, k2, k3, k4, k5, k6, k7⟩ := cells8 q2
  have f6 := Lib.frozen_of_heap q2 6
  clear q1 q2 q3
  go_wp2_with (fail)
  all_goals (try (go_region_with (fail)))
  all_goals (try go_wp2)
  all_goals first
    | (go_ret; exact ⟨rfl, EB_setX (e := e) HE1.out v, by repeat (first | (with_reducible first | exact Below.setCell HB1.out (p := ⟨g, 6, none⟩) (EB_leg HE.out) _ | apply pw_below_drewN | apply below_drew1) | exact Below.setCell HB1.out (p := ⟨g, 6, none⟩) (EB_leg HE.out) _)⟩)
    | trace_state

theorem EB_setY {T : Nat × Obj} {B g : Nat} {e : Ev} {W : World} (h : EB T B g e W) (t : Int) : EB T B g { e with y := t } (W.setCell ⟨g, 6, none⟩ (.complex .f64 (fl e.x) (fl t))) := by
  obtain ⟨v, h1, h2, h3⟩ := h
  exact ⟨v, Kd.R_far h1 (p := ⟨g, 6, none⟩) (fun k hk => hk.1) _, by simp [World.setCell, Array.getElem?_modify, h2], EB_k3 h3 _ _⟩
set_option maxHeartbeats 8000000 in
set_option maxRecDepth 100000 in
theorem set_Y {T : Nat × Obj} (B g : Nat) (e : Ev) (wd : ByteArray) (v : Int) (w : World) (hE : EnvW w) (hB : EB T B g e w) (hs : wd.size ≤ 1000000) (h : atoiV wd = some v) (h0 : -9999 ≤ v) (h1 : v ≤ 9999) :
    Calls Tryz.prog 51 #[.pointer (some ⟨g, 0, none⟩), .int .i32 89, .string wd] w fun r w' => r = .returned (.bool true) ∧ EB T B g { e with y := v } w' ∧ Below B w w' := by
  have HE := Aside0.mk hB
  have HN := Aside0.mk hE
  have HA := Aside0.mk h
  clear hB hE h
  have p1 : decide (v < -9999) = false := decide_eq_false (by omega)
  have p2 : decide (v > 9999) = false := decide_eq_false (by omega)
  go_enter Tryz.func51, Tryz.ntmps51
  go_wp2_with (fail)
  (with_reducible refine (atoi_any wd hs _ HN.out).mono ?_)
  rintro r w1 ⟨hb1, hr⟩
  rw [HA.out] at hr
  subst hr
  have HE1 := Aside0.mk (EB_below HE.out hb1)
  have HB1 := Aside0.mk (hb1.mono (EB_le HE.out))
  clear hb1
  obtain ⟨q0, q1, q2, q3⟩ := HE1.out
  obtain ⟨k0, k1, k2, k3, k4, k5, k6, k7⟩ := cells8 q2
  have f6 := Lib.frozen_of_heap q2 6
  clear q1 q2 q3
  go_wp2_with (fail)
  all_goals (try (go_region_with (fail)))
  all_goals (try go_wp2)
  all_goals first
    | (go_ret; exact ⟨rfl, EB_setY (e := e) HE1.out v, by repeat (first | (with_reducible first | exact Below.setCell HB1.out (p := ⟨g, 6, none⟩) (EB_leg HE.out) _ | apply pw_below_drewN | apply below_drew1) | exact Below.setCell HB1.out (p := ⟨g, 6, none⟩) (EB_leg HE.out) _)⟩)
    | trace_state

set_option maxHeartbeats 8000000 in
set_option maxRecDepth 100000 in
/-- No number: nothing is set. -/
theorem set_none {T : Nat × Obj} (B g : Nat) (e : Ev) (c : Int) (wd : ByteArray) (w : World) (hE : EnvW w) (hB : EB T B g e w) (hc1 : c ≠ 83) (hc2 : c ≠ 68) (hs : wd.size ≤ 1000000) (h : atoiV wd = none) :
    Calls Tryz.prog 51 #[.pointer (some ⟨g, 0, none⟩), .int .i32 c, .string wd] w fun r w' => r = .returned (.bool false) ∧ EB T B g e w' ∧ Below B w w' := by
  have e1 : (c == 83) = false := beq_false_of_ne hc1
  have e2 : (c == 68) = false := beq_false_of_ne hc2
  have HE := Aside0.mk hB
  have HN := Aside0.mk hE
  have HA := Aside0.mk h
  clear hB hE h
  go_enter Tryz.func51, Tryz.ntmps51
  go_wp2_with (fail)
  (with_reducible refine (atoi_any wd hs _ HN.out).mono ?_)
  rintro r w1 ⟨hb1, hr⟩
  rw [HA.out] at hr
  obtain ⟨v, N, rfl⟩ := hr
  have HE1 := Aside0.mk (EB_below HE.out hb1)
  have HB1 := Aside0.mk (hb1.mono (EB_le HE.out))
  clear hb1
  go_wp2_with (fail)
  go_ret
  exact ⟨rfl, HE1.out, HB1.out⟩
set_option maxHeartbeats 8000000 in
set_option maxRecDepth 100000 in
/-- A number that is too great, or too small: nothing is set. -/
theorem set_out {T : Nat × Obj} (B g : Nat) (e : Ev) (c : Int) (wd : ByteArray) (v : Int) (w : World) (hE : EnvW w) (hB : EB T B g e w) (hc1 : c ≠ 83) (hc2 : c ≠ 68) (hs : wd.size ≤ 1000000) (h : atoiV wd = some v) (hv : ¬(-9999 ≤ v ∧ v ≤ 9999)) :
    Calls Tryz.prog 51 #[.pointer (some ⟨g, 0, none⟩), .int .i32 c, .string wd] w fun r w' => r = .returned (.bool false) ∧ EB T B g e w' ∧ Below B w w' := by
  have e1 : (c == 83) = false := beq_false_of_ne hc1
  have e2 : (c == 68) = false := beq_false_of_ne hc2
  have HE := Aside0.mk hB
  have HN := Aside0.mk hE
  have HA := Aside0.mk h
  clear hB hE h
  go_enter Tryz.func51, Tryz.ntmps51
  go_wp2_with (fail)
  (with_reducible refine (atoi_any wd hs _ HN.out).mono ?_)
  rintro r w1 ⟨hb1, hr⟩
  rw [HA.out] at hr
  subst hr
  have HE1 := Aside0.mk (EB_below HE.out hb1)
  have HB1 := Aside0.mk (hb1.mono (EB_le HE.out))
  clear hb1
  by_cases p : v < -9999
  · have p1 : decide (v < -9999) = true := decide_eq_true p
    go_wp2_with (fail)
    go_ret
    exact ⟨rfl, HE1.out, HB1.out⟩
  · have p1 : decide (v < -9999) = false := decide_eq_false p
    have p2 : decide (v > 9999) = true := decide_eq_true (by omega)
    go_wp2_with (fail)
    go_ret
    exact ⟨rfl, HE1.out, HB1.out⟩

end Go.Proofs.YtndgaeldndgioaaGreatDoor.QAll
end

section
/- script.set of a tick's draws, walked by hand. -/
set_option linter.unusedVariables false
set_option linter.unusedSimpArgs false
namespace Go.Proofs.YtndgaeldndgioaaGreatDoor.QAll
open Go.RowKit Go.Proofs.YtndgaeldndgioaaGreatDoorW.PrintWords Go.Proofs.YtndgaeldndgioaaGreatDoorW.PrintLast Go.Proofs.YtndgaeldndgioaaGreatDoorW.PrintMore
open Go.Proofs.YtndgaeldndgioaaGreatDoor.Fl
/-- The bytes of a word's digits, behind those that are there; and whether all were digits. -/
def drawsL : Nat → ByteArray → List Int → Option (List Int × Bool)
  | 0, _, _ => none
  | k + 1, s, acc => if s.size = 0 then some (acc, true) else (script_value.f (s.extract 0 2)).bind fun p => if p.2 = true then drawsL k (s.extract 2 s.size) (acc ++ [p.1]) else some (acc, false)
set_option maxHeartbeats 8000000 in
set_option maxRecDepth 100000 in
theorem set_D {T : Nat × Obj} (B g : Nat) (e : Ev) (wd s1 : ByteArray) (K : Nat) (d' : List Int) (ok : Bool) (w : World) (hB : EB T B g e w) (h : strings_CutPrefix.f wd ⟨#[35]⟩ = some (s1, true)) (he : s1.size % 2 = 0) (hs : s1.size ≤ 100000) (hl : e.d.length ≤ 100000) (hD : drawsL K s1 e.d = some (d', ok)) :
    Calls Tryz.prog 51 #[.pointer (some ⟨g, 0, none⟩), .int .i32 68, .string wd] w fun r w' => r = .returned (.bool ok) ∧ EB T B g { e with d := d' } w' ∧ Below B w w' := by
  have HE := Aside0.mk hB
  have HA := Aside0.mk h
  have HD := Aside0.mk hD
  clear hB h hD
  have hm : Int.tmod (s1.size : Int) 2 = 0 := by rw [Int.tmod_eq_emod_of_nonneg (by omega)]; omega
  go_enter Tryz.func51, Tryz.ntmps51
  go_wp2_with (fail)
  (with_reducible refine (strings_CutPrefix.calls wd ⟨#[35]⟩ s1 true _ HA.out).mono ?_)
  rintro r w1 ⟨rfl, hd1⟩
  have HE1 := Aside0.mk (EB_below HE.out hd1.below)
  have HB1 := Aside0.mk (hd1.below.mono (EB_le HE.out))
  clear hd1
  go_wp2_with (fail)
  clear hm
  go_loopg [9] K (fun kq v9 wr => ∃ (s9 : ByteArray) (acc : List Int), v9 = .string s9 ∧ s9.size % 2 = 0 ∧ s9.size ≤ 100000 ∧ acc.length + s9.size ≤ 200000 ∧ Aside0 (drawsL kq s9 acc = some (d', ok)) ∧ Aside0 (kq ≤ K) ∧ Aside0 (EB T B g { e with d := acc } wr) ∧ Aside0 (Below B w wr))
  case atStart => exact ⟨s1, e.d, rfl, he, hs, by omega, HD, ⟨Nat.le_refl _⟩, HE1, HB1⟩
  case round =>
    obtain ⟨s9, acc, rfl, he9, hs9, hl9, HD9, HK9, HE9, HB9⟩ := hrel
    clear HD HE1 HB1
    cases gk with
    | zero => exact absurd HD9.out (by simp [drawsL])
    | succ k1 =>
      have hd := HD9.out
      clear HD9
      rw [drawsL] at hd
      by_cases hz : s9.size = 0
      · rw [if_pos hz] at hd
        obtain ⟨rfl, rfl⟩ := Prod.mk.inj (Option.some.inj hd)
        have hne : s9.toList.isEmpty = true := by
          rw [Go.ByteArray.toList_eq]
          have : s9.data.toList.length = 0 := by simpa using hz
          rw [List.length_eq_zero_iff.1 this]
          rfl
        go_wp2_with (fail)
        go_ret
        exact ⟨rfl, HE9.out, HB9.out⟩
      · rw [if_neg hz] at hd
        obtain ⟨p, hp, hrest⟩ := Option.bind_eq_some_iff.1 hd
        have HP := Aside0.mk hp
        have HRe := Aside0.mk hrest
        clear hp hrest hd
        have hne : s9.toList.isEmpty = false := by
          rw [Go.ByteArray.toList_eq]
          have : s9.data.toList.length = s9.size := by simp
          cases hq : s9.data.toList with
          | nil => rw [hq] at this; exact absurd this.symm hz
          | cons _ _ => rfl
        have h2 : (2 : Int) ≤ (s9.size : Int) := by omega
        go_wp2_with (fail)
        (with_reducible refine (script_value.calls (s9.extract 0 2) p.1 p.2 _ HP.out).mono ?_)
        rintro r w2 ⟨rfl, hd2⟩
        have HE2 := Aside0.mk (EB_below HE9.out hd2.below)
        have HB2 := Aside0.mk (HB9.out.trans (hd2.below.mono (EB_le HE9.out)))
        clear hd2 HE9 HB9
        cases hp2 : p.2 with
        | false =>
          have hre := HRe.out
          rw [hp2, if_neg (by decide)] at hre
          obtain ⟨rfl, rfl⟩ := Prod.mk.inj (Option.some.inj hre)
          clear hre HRe
          go_wp2_with (fail)
          go_ret
          exact ⟨rfl, HE2.out, HB2.out⟩
        | true =>
          have hre := HRe.out
          rw [hp2, if_pos rfl] at hre
          have HRe2 := Aside0.mk hre
          clear hre HRe
          obtain ⟨vd, q1, q2, q3⟩ := HE2.out
          have Q1 := Aside0.mk q1
          have Q2 := Aside0.mk q2
          obtain ⟨k0, k1', k2, k3, k4, k5, k6, k7⟩ := cells8 q2
          clear q1 q2
          go_wp2_with (at_builtin; refine Kd.R_append (Kd.int .u8) (w0 := w) B rfl (.tmp 64) (.tmp 66) 24 5 (.int .u8 0) 1 rfl Tryz.underlying24 info5 rfl (by decide) (by omega) vd acc p.1 [.int .u8 p.1] (fun i => i ≠ g ∧ i ≠ T.1) (fun _ => False) rfl rfl rfl (fun _ hk => hk.elim) (fun i hi => ⟨by have := lt_of_some Q2.out; omega, by have := lt_of_some q3.2.1; omega⟩) Q1.out HB2.out (EB_le HE2.out) (by omega) ?_; intro v1 w5 ho hb hg hat; have X5 := (hg.block g (lt_of_some Q2.out) (fun e => (Q1.out.1 g e.symm).1 rfl)).trans Q2.out; have XT := (hg.block T.1 (lt_of_some q3.2.1) (fun e => (Q1.out.1 T.1 e.symm).2 rfl)).trans q3.2.1; obtain ⟨Ao, co, eo⟩ := Kd.R_slice ho; subst eo; have HO5 := Aside0.mk ho; have HX5 := Aside0.mk X5; have HB5 := Aside0.mk hb; clear ho hb hg hat k0 k1' k2 k3 k4 k5 k6 k7; obtain ⟨k0, k1', k2, k3, k4, k5, k6, k7⟩ := cells8 X5; have f7 := Lib.frozen_of_heap X5 7; clear X5)
          have hsx : (s9.extract 2 s9.size).size = s9.size - 2 := by simp
          go_roundg k1
          case rel => exact ⟨s9.extract 2 s9.size, acc ++ [p.1], rfl, by omega, by omega, by simp; omega, HRe2, ⟨by have := HK9.out; omega⟩, ⟨_, Kd.R_far HO5.out (p := ⟨g, 7, none⟩) (fun k hk => hk.1) _, by simp [World.setCell, Array.getElem?_modify, HX5.out], EB_k3 ⟨q3.1, XT, q3.2.2⟩ _ _⟩, ⟨HB5.out.setCell (p := ⟨g, 7, none⟩) q3.1 _⟩⟩
          case measure => omega
end Go.Proofs.YtndgaeldndgioaaGreatDoor.QAll
end

section
/- Walks, written by a program of this session (wip/pp): a Go function comes to what the Lean function beside it tells. -/
namespace Go.Proofs.YtndgaeldndgioaaGreatDoor.QAll
open Go.RowKit Go.Proofs.YtndgaeldndgioaaGreatDoorW.PrintWords Go.Proofs.YtndgaeldndgioaaGreatDoorW.PrintLast Go.Proofs.YtndgaeldndgioaaGreatDoorW.PrintMore
attribute [local go_sem] max2_int min2_int max_two min_two max_three min_three max_four min_four
set_option linter.unusedVariables false
set_option linter.unusedSimpArgs false

def squelchref30_digit.f (a0 : Int) : Option (Int) := if a0 ≥ 65 then (some (wrap64 ((wrap64 (Int.tmod a0 32)) + 9))) else (some (wrap64 (Int.tmod a0 16)))
set_option maxHeartbeats 8000000 in
set_option maxRecDepth 100000 in
theorem squelchref30_digit.calls (a0 : Int) (r : Int) (w : World) (h : squelchref30_digit.f a0 = some r) :
  Calls Tryz.prog 52 #[.int .u8 a0] w fun e w' => e = .returned (.int .i64 r) ∧ Drawn0 w w' := by
 have H : (if a0 ≥ 65 then (some (wrap64 ((wrap64 (Int.tmod a0 32)) + 9))) else (some (wrap64 (Int.tmod a0 16)))) = some r := h
 clear h
 by_cases c2 : a0 ≥ 65
 ·rw [if_pos c2] at H
  have c2b0 : decide (65 ≤ a0) = true := decide_eq_true c2
  clear c2
  obtain rfl := Option.some.inj H
  go_enter Tryz.func52, Tryz.ntmps52
  go_wp2
  go_ret
  exact ⟨by first | rfl | (simp; done) | (simp [*]; done) | (simp; exact (fun l : List UInt8 => (by cases l <;> rfl : l.isEmpty = !(l != []))) _), by repeat (first | exact Drawn0.refl _ | apply Drawn0.step)⟩
 ·rw [if_neg c2] at H
  have c2b0 : decide (65 ≤ a0) = false := decide_eq_false c2
  clear c2
  obtain rfl := Option.some.inj H
  go_enter Tryz.func52, Tryz.ntmps52
  go_wp2
  go_ret
  exact ⟨by first | rfl | (simp; done) | (simp [*]; done) | (simp; exact (fun l : List UInt8 => (by cases l <;> rfl : l.isEmpty = !(l != []))) _), by repeat (first | exact Drawn0.refl _ | apply Drawn0.step)⟩

end Go.Proofs.YtndgaeldndgioaaGreatDoor.QAll
end

section
/- Walks, written by a program of this session (wip/pp): a Go function comes to what the Lean function beside it tells. -/
namespace Go.Proofs.YtndgaeldndgioaaGreatDoor.QAll
open Go.RowKit Go.Proofs.YtndgaeldndgioaaGreatDoorW.PrintWords Go.Proofs.YtndgaeldndgioaaGreatDoorW.PrintLast Go.Proofs.YtndgaeldndgioaaGreatDoorW.PrintMore
attribute [local go_sem] max2_int min2_int max_two min_two max_three min_three max_four min_four
set_option linter.unusedVariables false
set_option linter.unusedSimpArgs false

mutual
def squelchref30_bytes.l0 : Nat → ByteArray → Bool → List Int → Int → Option (ByteArray)
 | 0, _, _, _, _ => none
 | k + 1, x0, x1, x5, x6 => if x6 < (x0.size : Int) then (if x1 = true then (if 0 ≤ x6 then (squelchref30_bytes.j1 k x0 x1 x5 x6 ((bt x0 x6) != 37)) else (none)) else (squelchref30_bytes.j1 k x0 x1 x5 x6 false)) else (some (strOfNums x5))
def squelchref30_bytes.j1 : Nat → ByteArray → Bool → List Int → Int → Bool → Option (ByteArray)
 | 0, _, _, _, _, _ => none
 | k + 1, x0, x1, x5, x6, x20 => if x20 = true then (if 0 ≤ x6 then (if x6 < (x0.size : Int) then (if x5.length < 140737488355328 then (squelchref30_bytes.l0 k x0 x1 (x5 ++ [bt x0 x6]) (wrap64 (x6 + 1))) else (none)) else (none)) else (none)) else (if x1 = true then (squelchref30_bytes.j2 k x0 x1 x5 (wrap64 (x6 + 1))) else (squelchref30_bytes.j2 k x0 x1 x5 x6))
def squelchref30_bytes.j2 : Nat → ByteArray → Bool → List Int → Int → Option (ByteArray)
 | 0, _, _, _, _ => none
 | k + 1, x0, x1, x5, x6 => if (wrap64 (x6 + 1)) < (x0.size : Int) then (if 0 ≤ x6 then (if x6 < (x0.size : Int) then ((squelchref30_digit.f (bt x0 x6)).bind fun t182 => (if 0 ≤ (wrap64 (x6 + 1)) then ((squelchref30_digit.f (bt x0 (wrap64 (x6 + 1)))).bind fun t183 => (if x5.length < 140737488355328 then (squelchref30_bytes.l0 k x0 x1 (x5 ++ [(wrap64 ((wrap64 (16 * t182)) + t183)) % 256]) (wrap64 ((wrap64 (x6 + 1)) + 1))) else (none))) else (none))) else (none)) else (none)) else (squelchref30_bytes.l0 k x0 x1 x5 (wrap64 ((wrap64 (x6 + 1)) + 1)))
end
def squelchref30_bytes.f (k : Nat) (a0 : ByteArray) (a1 : Bool) : Option (ByteArray) := squelchref30_bytes.l0 k a0 a1 (([] : List Int)) 1
def squelchref30_bytes.T10 : Bool × List (List Nat × List Nat) := (true, [([], []), ([], []), ([], []), ([1, 2], [1, 2]), ([3], [3]), ([4], [4]), ([], []), ([], []), ([7], [7]), ([6, 8], [6, 8]), ([9, 4], [9]), ([5, 10], [5, 10]), ([11], [11]), ([12], [12]), ([0, 13, 10], [0, 13]), ([14, 14, 0, 1, 2, 3, 4, 5, 6, 7, 8, 9, 10, 11, 12, 13, 14], [0, 14])])
def squelchref30_bytes.B10 : List Nat := [0, 0, 0, 6, 14, 30, 0, 0, 128, 448, 990, 2046, 4094, 8190, 16383, 32767]
theorem squelchref30_bytes.tab10 : rtab .any (opsOf Tryz.f19 10) = squelchref30_bytes.T10 := by kernel_rfl
theorem squelchref30_bytes.bits10 : waitsOk squelchref30_bytes.T10.2 squelchref30_bytes.B10 = true := by kernel_rfl
set_option maxHeartbeats 8000000 in
set_option maxRecDepth 100000 in
theorem squelchref30_bytes.calls (k : Nat) (a0 : ByteArray) (a1 : Bool) (r : ByteArray) (w : World) (h : squelchref30_bytes.f k a0 a1 = some r) :
  Calls Tryz.prog 19 #[.string a0, .bool a1] w fun e w' => e = .returned (.string r) ∧ Below w.heap.size w w' := by
 have HB := Aside0.mk (Below.refl w.heap.size w)
 have H : (squelchref30_bytes.l0 k a0 a1 (([] : List Int)) 1) = some r := h
 clear h
 obtain ⟨y176, hy176⟩ : ∃ y_ : List Int, y_ = (([] : List Int)) := ⟨_, rfl⟩
 replace H : (squelchref30_bytes.l0 k a0 a1 y176 1) = some r := by first | (rw [hy176]; with_reducible exact H) | (have H2_ := (Option.bind_some _ _).symm.trans H; rw [hy176]; with_reducible exact H2_) | (have H2_ := (Option.bind_some _ _).symm.trans H; with_reducible exact H2_) | with_reducible exact H | (rw [hy176]; exact H) | exact H
 have Ny176 := Aside0.mk hy176
 clear hy176
 have H' := Aside0.mk H
 clear H
 go_enter Tryz.func19, Tryz.ntmps19
 go_wp2_with (first | ((with_reducible refine gate_dst (N := 7) rfl ?_); refine Kd.R_lit (Kd.int .u8) _ 5 ?hg (N := 7) ?hd (xs := ([] : List Int)) (inner := []) (ok := fun _ => True) (okp := fun _ => True) ?hr ?hp (fun _ hk => hk) trivial (Below.refl _ _) (Nat.le_refl _) (by simp) ?_; (case hd => rfl); (case hg => rfl); (case hr => first | (go_simp; done) | (go_simp; rfl)); (case hp => exact (Reps.none _ _)); intro v177 w3 ho4 hb hg_ hnew_; clear hg_ hnew_; (first | rw [← Ny176.out] at ho4 | (simp only [Int.reduceToNat] at ho4; rw [← Ny176.out] at ho4)); have n0_ := Aside0.mk (Kd.R_lower ho4 (below_size (by repeat (first | (with_reducible first | exact HB.out | apply below_alloc | apply pw_below_drewN | apply below_drew1) | exact HB.out)))); have n1_ := Aside0.mk (below_step (by repeat (first | (with_reducible first | exact HB.out | apply below_alloc | apply pw_below_drewN | apply below_drew1) | exact HB.out)) hb); clear HB; have HO178 := n0_; have HB := n1_; clear n0_ n1_; clear hb ho4))
 go_loopg [5, 6] k (fun kq v5 v6 w' => ∃ (x5_1 : List Int) (x6_1 : Int), v6 = .int .i64 x6_1 ∧ Aside0 (squelchref30_bytes.l0 kq a0 a1 x5_1 x6_1 = some r) ∧ Aside0 (kq ≤ k) ∧ Aside0 (Kd.R (Kd.int .u8) 5 w' w.heap.size (fun _ => True) v5 x5_1) ∧ Aside0 (Below w.heap.size w w'))
 case atStart => exact ⟨(y176), (1), (by first | rfl | (simp; done) | (simp [*]; done) | (simp; exact (fun l : List UInt8 => (by cases l <;> rfl : l.isEmpty = !(l != []))) _)), H', ⟨Nat.le_refl _⟩, ⟨by (with_reducible repeat (first | apply Kd.R_alloc | apply Kd.R_drewN | apply Kd.R_drew)); exact HO178.out⟩, ⟨by repeat (first | (with_reducible first | exact HB.out | apply below_alloc | apply pw_below_drewN | apply below_drew1) | exact HB.out)⟩⟩
 case round =>
  clear H'
  try clear c1
  try clear p2
  obtain ⟨x5_1, x6_1, rfl, HA, HK1, HO_5, HB⟩ := hrel
  cases gk with
  | zero => exact absurd HA.out (by simp [squelchref30_bytes.l0])
  | succ k1 =>
   have H := HA.out
   clear HA
   simp only [squelchref30_bytes.l0] at H
   by_cases c5 : x6_1 < (a0.size : Int)
   ·rw [if_pos c5] at H
    have c5b0 : decide (x6_1 < (a0.size : Int)) = true := decide_eq_true c5
    clear c5
    have HC6 := Aside0.mk H
    clear H
    go_upto_region 5 with (fail)
    go_cut [20] (fun v20 wc => ∃ (kq : Nat) (x20_5 : Bool), v20 = .bool x20_5 ∧ Aside0 (squelchref30_bytes.j1 kq a0 a1 x5_1 x6_1 x20_5 = some r) ∧ Aside0 (kq ≤ k1) ∧ Aside0 (Kd.R (Kd.int .u8) 5 wc w.heap.size (fun _ => True) u5 x5_1) ∧ Aside0 (Below w.heap.size w wc))
    case first =>
     have H := HC6.out
     clear HC6
     by_cases c7 : a1 = true
     ·subst c7
      have H1 : (if 0 ≤ x6_1 then (squelchref30_bytes.j1 k1 a0 true x5_1 x6_1 ((bt a0 x6_1) != 37)) else (none)) = some r := by rw [if_pos rfl] at H; exact H
      clear H
      have H := H1
      clear H1
      by_cases c8 : 0 ≤ x6_1
      ·rw [if_pos c8] at H
       have c8b0 : decide (0 ≤ x6_1) = true := decide_eq_true c8
       clear c8
       (first | rw [c8b0] | (simp only [i64_w, i32_w]; rw [c8b0]) | skip)
       have H' := Aside0.mk H
       clear H
       have p9 : 0 ≤ (x6_1 : Int) := of_decide_eq_true (by first | (with_reducible assumption) | assumption)
       have q9 : x6_1 < (a0.size : Int) := of_decide_eq_true (by first | (with_reducible assumption) | assumption)
       have hx9 := bt_at a0 x6_1
       replace p9 := eq_true p9
       replace q9 := eq_true q9
       go_wp2
       go_meet
       case rel => exact ⟨_, (((bt a0 x6_1) != 37)), (by first | rfl | (simp; done) | (simp [*]; done) | (simp; exact (fun l : List UInt8 => (by cases l <;> rfl : l.isEmpty = !(l != []))) _)), H', ⟨by have := HK1.out; first | omega | exact Nat.le_refl _⟩, ⟨by (with_reducible repeat (first | apply Kd.R_alloc | apply Kd.R_drewN | apply Kd.R_drew)); exact HO_5.out⟩, ⟨by repeat (first | (with_reducible first | exact HB.out | apply below_alloc | apply pw_below_drewN | apply below_drew1) | exact HB.out)⟩⟩
      ·rw [if_neg c8] at H
       exact absurd H (by simp)
     ·replace c7 := Bool.eq_false_iff.mpr c7
      subst c7
      have H1 : (squelchref30_bytes.j1 k1 a0 false x5_1 x6_1 false) = some r := by rw [if_neg (show ¬ (false = true) by decide)] at H; exact H
      clear H
      have H := H1
      clear H1
      have H' := Aside0.mk H
      clear H
      go_wp2
      go_meet
      case rel => exact ⟨_, (false), (by first | rfl | (simp; done) | (simp [*]; done) | (simp; exact (fun l : List UInt8 => (by cases l <;> rfl : l.isEmpty = !(l != []))) _)), H', ⟨by have := HK1.out; first | omega | exact Nat.le_refl _⟩, ⟨by (with_reducible repeat (first | apply Kd.R_alloc | apply Kd.R_drewN | apply Kd.R_drew)); exact HO_5.out⟩, ⟨by repeat (first | (with_reducible first | exact HB.out | apply below_alloc | apply pw_below_drewN | apply below_drew1) | exact HB.out)⟩⟩
    case rest =>
     clear HC6
     try clear c1
     try clear p2
     try clear c5
     try clear c5b0
     try clear c7
     try clear c8
     try clear c8b0
     try clear p9
     try clear q9
     try clear hx9
     try clear p2
     try clear p9
     try clear q9
     obtain ⟨kq, x20_5, rfl, HA, HJ5, HO_5, HB⟩ := hcut
     cases kq with
     | zero => exact absurd HA.out (by simp [squelchref30_bytes.j1])
     | succ kj5 =>
      have H := HA.out
      clear HA
      simp only [squelchref30_bytes.j1] at H
      by_cases c10 : x20_5 = true
      ·subst c10
       have H1 : (if 0 ≤ x6_1 then (if x6_1 < (a0.size : Int) then (if x5_1.length < 140737488355328 then (squelchref30_bytes.l0 kj5 a0 a1 (x5_1 ++ [bt a0 x6_1]) (wrap64 (x6_1 + 1))) else (none)) else (none)) else (none)) = some r := by rw [if_pos rfl] at H; exact H
       clear H
       have H := H1
       clear H1
       by_cases c11 : 0 ≤ x6_1
       ·rw [if_pos c11] at H
        have c11b0 : decide (0 ≤ x6_1) = true := decide_eq_true c11
        clear c11
        by_cases c12 : x6_1 < (a0.size : Int)
        ·rw [if_pos c12] at H
         have c12b0 : decide (x6_1 < (a0.size : Int)) = true := decide_eq_true c12
         clear c12
         by_cases c14 : x5_1.length < 140737488355328
         ·rw [if_pos c14] at H
          have LMc14 := Aside0.mk c14
          clear c14
          obtain ⟨y179, hy179⟩ : ∃ y_ : List Int, y_ = (x5_1 ++ [bt a0 x6_1]) := ⟨_, rfl⟩
          replace H : (squelchref30_bytes.l0 kj5 a0 a1 y179 (wrap64 (x6_1 + 1))) = some r := by first | (rw [hy179]; with_reducible exact H) | (have H2_ := (Option.bind_some _ _).symm.trans H; rw [hy179]; with_reducible exact H2_) | (have H2_ := (Option.bind_some _ _).symm.trans H; with_reducible exact H2_) | with_reducible exact H | (rw [hy179]; exact H) | exact H
          have Ny179 := Aside0.mk hy179
          clear hy179
          have H' := Aside0.mk H
          clear H
          have p13 : 0 ≤ (x6_1 : Int) := of_decide_eq_true (by first | (with_reducible assumption) | assumption)
          have q13 : x6_1 < (a0.size : Int) := of_decide_eq_true (by first | (with_reducible assumption) | assumption)
          have hx13 := bt_at a0 x6_1
          replace p13 := eq_true p13
          replace q13 := eq_true q13
          go_wp2_with (first | ((with_reducible refine gate_builtin (b := .append) (xs := #[.tmp 21, .tmp 25]) rfl ?_); at_builtin; refine Kd.R_append (Kd.int .u8) (w0 := w) w.heap.size rfl (.tmp 21) (.tmp 25) 24 5 (.int .u8 0) 1 rfl Tryz.underlying24 info5 rfl (by decide) (by omega) u5 x5_1 (bt a0 x6_1) [.int .u8 (bt a0 x6_1)] (fun _ => True) (fun _ => False) rfl rfl ?aP (fun _ hk => hk.elim) ?aF ?aO ?aB ?aS ?aL ?_; (case aP => exact rfl); (case aB => exact (by repeat (first | (with_reducible first | exact HB.out | apply below_alloc | apply pw_below_drewN | apply below_drew1) | exact HB.out))); (case aF => exact (fun _ _ => trivial)); (case aO => exact (by (with_reducible repeat (first | apply Kd.R_alloc | apply Kd.R_drewN | apply Kd.R_drew)); exact HO_5.out)); (case aS => exact (below_size (by repeat (first | (with_reducible first | exact HB.out | apply below_alloc | apply pw_below_drewN | apply below_drew1) | exact HB.out)))); (case aL => have := LMc14.out; omega); intro v180 w15 ho hb hg hat; rw [← Ny179.out] at ho; have n0_ := Aside0.mk (hb); have n1_ := Aside0.mk (ho); clear HB; clear HO_5; have HB := n0_; have HO181 := n1_; clear n0_ n1_; clear ho hb hg hat))
          go_roundg kj5
          case measure => have := HK1.out; have := HJ5.out; omega
          case rel => exact ⟨(y179), (wrap64 (x6_1 + 1)), (by first | rfl | (simp; done) | (simp [*]; done) | (simp; exact (fun l : List UInt8 => (by cases l <;> rfl : l.isEmpty = !(l != []))) _)), H', ⟨by have := HK1.out; have := HJ5.out; omega⟩, ⟨by (with_reducible repeat (first | apply Kd.R_alloc | apply Kd.R_drewN | apply Kd.R_drew)); exact HO181.out⟩, ⟨by repeat (first | (with_reducible first | exact HB.out | apply below_alloc | apply pw_below_drewN | apply below_drew1) | exact HB.out)⟩⟩
         ·rw [if_neg c14] at H
          exact absurd H (by simp)
        ·rw [if_neg c12] at H
         exact absurd H (by simp)
       ·rw [if_neg c11] at H
        exact absurd H (by simp)
      ·replace c10 := Bool.eq_false_iff.mpr c10
       subst c10
       have H1 : (if a1 = true then (squelchref30_bytes.j2 kj5 a0 a1 x5_1 (wrap64 (x6_1 + 1))) else (squelchref30_bytes.j2 kj5 a0 a1 x5_1 x6_1)) = some r := by rw [if_neg (show ¬ (false = true) by decide)] at H; exact H
       clear H
       have H := H1
       clear H1
       have HC16 := Aside0.mk H
       clear H
       go_upto_if 27 with (fail)
       go_cut [6] (fun v6 wc => ∃ (kq : Nat) (x6_15 : Int), v6 = .int .i64 x6_15 ∧ Aside0 (squelchref30_bytes.j2 kq a0 a1 x5_1 x6_15 = some r) ∧ Aside0 (kq ≤ kj5) ∧ Aside0 (Kd.R (Kd.int .u8) 5 wc w.heap.size (fun _ => True) u5 x5_1) ∧ Aside0 (Below w.heap.size w wc))
       case first =>
        have H := HC16.out
        clear HC16
        by_cases c17 : a1 = true
        ·subst c17
         have H1 : (squelchref30_bytes.j2 kj5 a0 true x5_1 (wrap64 (x6_1 + 1))) = some r := by rw [if_pos rfl] at H; exact H
         clear H
         have H := H1
         clear H1
         have H' := Aside0.mk H
         clear H
         go_wp2
         go_meet
         case rel => exact ⟨_, (wrap64 (x6_1 + 1)), (by first | rfl | (simp; done) | (simp [*]; done) | (simp; exact (fun l : List UInt8 => (by cases l <;> rfl : l.isEmpty = !(l != []))) _)), H', ⟨by have := HK1.out; have := HJ5.out; first | omega | exact Nat.le_refl _⟩, ⟨by (with_reducible repeat (first | apply Kd.R_alloc | apply Kd.R_drewN | apply Kd.R_drew)); exact HO_5.out⟩, ⟨by repeat (first | (with_reducible first | exact HB.out | apply below_alloc | apply pw_below_drewN | apply below_drew1) | exact HB.out)⟩⟩
        ·replace c17 := Bool.eq_false_iff.mpr c17
         subst c17
         have H1 : (squelchref30_bytes.j2 kj5 a0 false x5_1 x6_1) = some r := by rw [if_neg (show ¬ (false = true) by decide)] at H; exact H
         clear H
         have H := H1
         clear H1
         have H' := Aside0.mk H
         clear H
         go_wp2
         go_meet
         case rel => exact ⟨_, (x6_1), (by first | rfl | (simp; done) | (simp [*]; done) | (simp; exact (fun l : List UInt8 => (by cases l <;> rfl : l.isEmpty = !(l != []))) _)), H', ⟨by have := HK1.out; have := HJ5.out; first | omega | exact Nat.le_refl _⟩, ⟨by (with_reducible repeat (first | apply Kd.R_alloc | apply Kd.R_drewN | apply Kd.R_drew)); exact HO_5.out⟩, ⟨by repeat (first | (with_reducible first | exact HB.out | apply below_alloc | apply pw_below_drewN | apply below_drew1) | exact HB.out)⟩⟩
       case rest =>
        clear HC16
        try clear c1
        try clear p1
        try clear q1
        try clear hx1
        try clear p2
        try clear c5
        try clear c5b0
        try clear p6
        try clear c7
        try clear c8
        try clear c8b0
        try clear p9
        try clear q9
        try clear hx9
        try clear c10
        try clear c11
        try clear c11b0
        try clear c12
        try clear c12b0
        try clear p13
        try clear q13
        try clear hx13
        try clear c14
        try clear c17
        try clear p13
        try clear p2
        try clear p9
        try clear q13
        try clear q9
        obtain ⟨kq, x6_15, rfl, HA, HJ15, HO_5, HB⟩ := hcut
        cases kq with
        | zero => exact absurd HA.out (by simp [squelchref30_bytes.j2])
        | succ kj15 =>
         have H := HA.out
         clear HA
         simp only [squelchref30_bytes.j2] at H
         by_cases c18 : (wrap64 (x6_15 + 1)) < (a0.size : Int)
         ·rw [if_pos c18] at H
          have c18b0 : decide ((wrap64 (x6_15 + 1)) < (a0.size : Int)) = true := decide_eq_true c18
          clear c18
          by_cases c19 : 0 ≤ x6_15
          ·rw [if_pos c19] at H
           have c19b0 : decide (0 ≤ x6_15) = true := decide_eq_true c19
           clear c19
           by_cases c20 : x6_15 < (a0.size : Int)
           ·rw [if_pos c20] at H
            have c20b0 : decide (x6_15 < (a0.size : Int)) = true := decide_eq_true c20
            clear c20
            replace H := Option.bind_eq_some_iff.mp H
            obtain ⟨t182, A220, H⟩ := H
            replace H : (if 0 ≤ (wrap64 (x6_15 + 1)) then ((squelchref30_digit.f (bt a0 (wrap64 (x6_15 + 1)))).bind fun t183 => (if x5_1.length < 140737488355328 then (squelchref30_bytes.l0 kj15 a0 a1 (x5_1 ++ [(wrap64 ((wrap64 (16 * t182)) + t183)) % 256]) (wrap64 ((wrap64 (x6_15 + 1)) + 1))) else (none))) else (none)) = some r := H
            have A22 := Aside0.mk A220
            clear A220
            obtain ⟨ji23, hji23⟩ : ∃ j_ : Int, (wrap64 (x6_15 + 1)) = j_ := ⟨_, rfl⟩
            replace H : (if 0 ≤ (ji23) then ((squelchref30_digit.f (bt a0 (ji23))).bind fun t183 => (if x5_1.length < 140737488355328 then (squelchref30_bytes.l0 kj15 a0 a1 (x5_1 ++ [(wrap64 ((wrap64 (16 * t182)) + t183)) % 256]) (wrap64 ((ji23) + 1))) else (none))) else (none)) = some r := by first | (rw [hji23] at H; exact H) | (simp only [hji23] at H ⊢; exact H)
            (try rw [hji23] at c18b0)
            (try rw [hji23] at A22)
            have hji23w : (IntKind.i64.wrap (x6_15 + 1)) = ji23 := (i64_w _).trans hji23
            by_cases c24 : 0 ≤ (ji23)
            ·rw [if_pos c24] at H
             have c24b0 : decide (0 ≤ (ji23)) = true := decide_eq_true c24
             clear c24
             replace H := Option.bind_eq_some_iff.mp H
             obtain ⟨t183, A260, H⟩ := H
             replace H : (if x5_1.length < 140737488355328 then (squelchref30_bytes.l0 kj15 a0 a1 (x5_1 ++ [(wrap64 ((wrap64 (16 * t182)) + t183)) % 256]) (wrap64 ((ji23) + 1))) else (none)) = some r := H
             have A26 := Aside0.mk A260
             clear A260
             by_cases c27 : x5_1.length < 140737488355328
             ·rw [if_pos c27] at H
              have LMc27 := Aside0.mk c27
              clear c27
              obtain ⟨y184, hy184⟩ : ∃ y_ : List Int, y_ = (x5_1 ++ [(wrap64 ((wrap64 (16 * t182)) + t183)) % 256]) := ⟨_, rfl⟩
              replace H : (squelchref30_bytes.l0 kj15 a0 a1 y184 (wrap64 ((ji23) + 1))) = some r := by first | (rw [hy184]; with_reducible exact H) | (have H2_ := (Option.bind_some _ _).symm.trans H; rw [hy184]; with_reducible exact H2_) | (have H2_ := (Option.bind_some _ _).symm.trans H; with_reducible exact H2_) | with_reducible exact H | (rw [hy184]; exact H) | exact H
              have Ny184 := Aside0.mk hy184
              clear hy184
              have H' := Aside0.mk H
              clear H
              try go_wp2
              have n0_ := Aside0.mk (Kd.R_drew HO_5.out)
              have n1_ := Aside0.mk (below_drew1 HB.out)
              clear HO_5
              clear HB
              have HO_5 := n0_
              have HB := n1_
              clear n0_ n1_
              have p21 : 0 ≤ (x6_15 : Int) := of_decide_eq_true (by first | (with_reducible assumption) | assumption)
              have q21 : x6_15 < (a0.size : Int) := of_decide_eq_true (by first | (with_reducible assumption) | assumption)
              have hx21 := bt_at a0 x6_15
              replace p21 := eq_true p21
              replace q21 := eq_true q21
              have p25 : 0 ≤ ((ji23) : Int) := of_decide_eq_true (by first | (with_reducible assumption) | assumption)
              have q25 : (ji23) < (a0.size : Int) := of_decide_eq_true (by first | (with_reducible assumption) | assumption)
              have hx25 := bt_at a0 (ji23)
              replace p25 := eq_true p25
              replace q25 := eq_true q25
              refine start_ (n := 16) (S := fun w' => True) (ds := []) #[false, false, false, false, false, false, false, false, false, false, false, false, false, false, false, false] (by kernel_rfl) rfl rfl trivial (fun hHeld => ?_); refine with_tabW squelchref30_bytes.tab10 squelchref30_bytes.bits10 (fun HT_ HW_ => ?_)
              generalize wc.drew = w28 at HO_5 HB hHeld ⊢
              refine pure_ (i := 0) (N := some 35) (v := ?_) (a' := ?_) #[true, false, false, false, false, false, false, false, false, false, false, false, false, false, false, false] rfl rfl (any_of HT_.out (by kernel_rfl)) (fun _ _ _ h => h) (Or.inl ⟨by rfl, ?_⟩) ?_ ?_
              rotate_left
              ·intro w'
               go_simp
               with_reducible rfl
              rotate_left
              ·simp only [Act.put, List.setIfInBounds_toArray, List.set_cons_zero, List.set_cons_succ, i64_w, i32_w]
               rfl
              refine pure_ (i := 1) (N := some 36) (v := ?_) (a' := ?_) #[true, true, false, false, false, false, false, false, false, false, false, false, false, false, false, false] rfl rfl (any_of HT_.out (by kernel_rfl)) (fun _ _ _ h => h) (Or.inl ⟨by rfl, ?_⟩) ?_ ?_
              rotate_left
              ·intro w'
               go_simp
               with_reducible rfl
              rotate_left
              ·simp only [Act.put, List.setIfInBounds_toArray, List.set_cons_zero, List.set_cons_succ, i64_w, i32_w]
               rfl
              refine pure_ (i := 2) (N := some 37) (v := ?_) (a' := ?_) #[true, true, true, false, false, false, false, false, false, false, false, false, false, false, false, false] rfl rfl (any_of HT_.out (by kernel_rfl)) (fun _ _ _ h => h) (Or.inl ⟨by rfl, ?_⟩) ?_ ?_
              rotate_left
              ·intro w'
               go_simp
               with_reducible rfl
              rotate_left
              ·simp only [Act.put, List.setIfInBounds_toArray, List.set_cons_zero, List.set_cons_succ, i64_w, i32_w]
               rfl
              refine pure_ (i := 6) (N := some 41) (v := ?_) (a' := ?_) #[true, true, true, false, false, false, true, false, false, false, false, false, false, false, false, false] rfl rfl (any_of HT_.out (by kernel_rfl)) (fun _ _ _ h => h) (Or.inl ⟨by rfl, ?_⟩) ?_ ?_
              rotate_left
              ·intro w'
               go_simp
               with_reducible rfl
              rotate_left
              ·simp only [Act.put, List.setIfInBounds_toArray, List.set_cons_zero, List.set_cons_succ, i64_w, i32_w]
               rfl
              refine pure_ (i := 7) (N := some 42) (v := ?_) (a' := ?_) #[true, true, true, false, false, false, true, true, false, false, false, false, false, false, false, false] rfl rfl (any_of HT_.out (by kernel_rfl)) (fun _ _ _ h => h) (Or.inl ⟨by rfl, ?_⟩) ?_ ?_
              rotate_left
              ·intro w'
               go_simp
               with_reducible rfl
              rotate_left
              ·simp only [Act.put, List.setIfInBounds_toArray, List.set_cons_zero, List.set_cons_succ, i64_w, i32_w]
               rfl
              refine pure_ (i := 8) (N := some 43) (v := ?_) (a' := ?_) #[true, true, true, false, false, false, true, true, true, false, false, false, false, false, false, false] rfl rfl (any_of HT_.out (by kernel_rfl)) (fun _ _ _ h => h) (Or.inl ⟨by rfl, ?_⟩) ?_ ?_
              rotate_left
              ·intro w'
               go_simp
               with_reducible rfl
              rotate_left
              ·simp only [Act.put, List.setIfInBounds_toArray, List.set_cons_zero, List.set_cons_succ, i64_w, i32_w]
               rfl
              refine take_ (i := 3) (N := some 38) (v := ?_) (a' := ?_) #[true, true, true, true, false, false, true, true, true, false, false, false, false, false, false, false] rfl rfl (take_ofW HT_.out HW_.out (by kernel_rfl)) (fun _ _ _ h => h) (Or.inl ⟨by rfl, ?_⟩) hHeld ?_ ?_
              rotate_left
              ·intro w' _
               go_simp
               with_reducible rfl
              rotate_left
              ·simp only [Act.put, List.setIfInBounds_toArray, List.set_cons_zero, List.set_cons_succ, i64_w, i32_w]
               rfl
              refine take_ (i := 9) (N := some 44) (v := ?_) (a' := ?_) #[true, true, true, true, false, false, true, true, true, true, false, false, false, false, false, false] rfl rfl (take_ofW HT_.out HW_.out (by kernel_rfl)) (fun _ _ _ h => h) (Or.inl ⟨by rfl, ?_⟩) hHeld ?_ ?_
              rotate_left
              ·intro w' _
               go_simp
               with_reducible rfl
              rotate_left
              ·simp only [Act.put, List.setIfInBounds_toArray, List.set_cons_zero, List.set_cons_succ, i64_w, i32_w]
               rfl
              refine one_ (i := 4) (N := some 39) #[true, true, true, true, true, false, true, true, true, true, false, false, false, false, false, false] rfl rfl (one_of HT_.out (by kernel_rfl)) (by decide) (fun K hK => ?_)
              refine goes_ Tryz.func52 (by kernel_rfl) rfl #[.int .u8 (bt a0 x6_15)] (by rfl) rfl rfl (by (try simp only [List.map_toArray, List.map_cons, List.map_nil]); first | done | rfl | (simp only [List.length_drop, List.length_take]; rfl)) ?_
              with_reducible refine (squelchref30_digit.calls (bt a0 x6_15) t182 _ A22.out).mono ?_
              rintro e w' ⟨rfl, ⟨nd, rfl⟩⟩
              refine ⟨_, rfl, ?_⟩
              refine hK.out _ _ trivial (fun hHeld => ?_)
              clear hK K
              refine norm_ (a' := ?_) ?_ ?_
              rotate_left
              ·show Act.put _ (some 39) _ = _
               simp only [Act.put, List.setIfInBounds_toArray, List.set_cons_zero, List.set_cons_succ, i64_w, i32_w]
               rfl
              refine pure_ (i := 5) (N := some 40) (v := ?_) (a' := ?_) #[true, true, true, true, true, true, true, true, true, true, false, false, false, false, false, false] rfl rfl (any_of HT_.out (by kernel_rfl)) (fun _ _ _ h => h) (Or.inl ⟨by rfl, ?_⟩) ?_ ?_
              rotate_left
              ·intro w'
               go_simp
               with_reducible rfl
              rotate_left
              ·simp only [Act.put, List.setIfInBounds_toArray, List.set_cons_zero, List.set_cons_succ, i64_w, i32_w]
               rfl
              refine one_ (i := 10) (N := some 45) #[true, true, true, true, true, true, true, true, true, true, true, false, false, false, false, false] rfl rfl (one_of HT_.out (by kernel_rfl)) (by decide) (fun K hK => ?_)
              refine goes_ Tryz.func52 (by kernel_rfl) rfl #[.int .u8 (bt a0 (ji23))] (by rfl) rfl rfl (by (try simp only [List.map_toArray, List.map_cons, List.map_nil]); first | done | (simp only [hji23]; rfl) | rfl | (simp only [List.length_drop, List.length_take]; rfl)) ?_
              with_reducible refine (squelchref30_digit.calls (bt a0 (ji23)) t183 _ A26.out).mono ?_
              rintro e w' ⟨rfl, ⟨nd, rfl⟩⟩
              refine ⟨_, rfl, ?_⟩
              refine hK.out _ _ trivial (fun hHeld => ?_)
              clear hK K
              refine norm_ (a' := ?_) ?_ ?_
              rotate_left
              ·show Act.put _ (some 45) _ = _
               simp only [Act.put, List.setIfInBounds_toArray, List.set_cons_zero, List.set_cons_succ, i64_w, i32_w]
               rfl
              refine pure_ (i := 11) (N := some 46) (v := ?_) (a' := ?_) #[true, true, true, true, true, true, true, true, true, true, true, true, false, false, false, false] rfl rfl (any_of HT_.out (by kernel_rfl)) (fun _ _ _ h => h) (Or.inl ⟨by rfl, ?_⟩) ?_ ?_
              rotate_left
              ·intro w'
               go_simp
               with_reducible rfl
              rotate_left
              ·simp only [Act.put, List.setIfInBounds_toArray, List.set_cons_zero, List.set_cons_succ, i64_w, i32_w]
               rfl
              refine pure_ (i := 12) (N := some 47) (v := ?_) (a' := ?_) #[true, true, true, true, true, true, true, true, true, true, true, true, true, false, false, false] rfl rfl (any_of HT_.out (by kernel_rfl)) (fun _ _ _ h => h) (Or.inl ⟨by rfl, ?_⟩) ?_ ?_
              rotate_left
              ·intro w'
               go_simp
               with_reducible rfl
              rotate_left
              ·simp only [Act.put, List.setIfInBounds_toArray, List.set_cons_zero, List.set_cons_succ, i64_w, i32_w]
               rfl
              refine one_ (i := 13) (N := some 48) #[true, true, true, true, true, true, true, true, true, true, true, true, true, true, false, false] rfl rfl (one_of HT_.out (by kernel_rfl)) (by decide) (fun K hK => ?_)
              refine value_ (w1 := ?_) (v := ?_) (by rfl) rfl ?_ ?_
              rotate_left 2
              ·go_simp
               constructor
               ·rfl
               ·rfl
              refine hK.out _ _ trivial (fun hHeld => ?_)
              clear hK K
              refine norm_ (a' := ?_) ?_ ?_
              rotate_left
              ·show Act.put _ (some 48) _ = _
               simp only [Act.put, List.setIfInBounds_toArray, List.set_cons_zero, List.set_cons_succ, i64_w, i32_w]
               rfl
              refine one_ (i := 14) (N := some 49) #[true, true, true, true, true, true, true, true, true, true, true, true, true, true, true, false] rfl rfl (one_of HT_.out (by kernel_rfl)) (by decide) (fun K hK => ?_)
              refine Kd.R_append_step (Kd.int .u8) (w0 := w) w.heap.size (by rfl) (.tmp 35) (.tmp 48) 24 5 (.int .u8 0) 1 rfl Tryz.underlying24 info5 rfl (by decide) (by omega) u5 x5_1 ((wrap64 ((wrap64 (16 * t182)) + t183)) % 256) [.int .u8 ((wrap64 ((wrap64 (16 * t182)) + t183)) % 256)] (fun _ => True) (fun _ => False) rfl rfl ?aP (fun _ hk => hk.elim) ?aF ?aO ?aB ?aS ?aL ?_
              (case aP => exact rfl)
              (case aB => exact (by repeat (first | (with_reducible first | exact HB.out | apply below_alloc | apply pw_below_drewN | apply below_drew1) | exact HB.out)))
              (case aF => exact (fun _ _ => trivial))
              (case aO => exact (by (with_reducible repeat (first | apply Kd.R_alloc | apply Kd.R_drewN | apply Kd.R_drew)); exact HO_5.out))
              (case aS => exact (below_size (by repeat (first | (with_reducible first | exact HB.out | apply below_alloc | apply pw_below_drewN | apply below_drew1) | exact HB.out))))
              (case aL => have := LMc27.out; omega)
              intro v185 w29 ho hb hg hat
              rw [← Ny184.out] at ho
              have n0_ := Aside0.mk (hb)
              have n1_ := Aside0.mk (ho)
              clear HB
              clear HO_5
              have HB := n0_
              have HO186 := n1_
              clear n0_ n1_
              clear ho hb hg hat
              refine hK.out _ _ trivial (fun hHeld => ?_)
              clear hK K
              refine norm_ (a' := ?_) ?_ ?_
              rotate_left
              ·show Act.put _ (some 49) _ = _
               simp only [Act.put, List.setIfInBounds_toArray, List.set_cons_zero, List.set_cons_succ, i64_w, i32_w]
               rfl
              refine pure_ (i := 15) (N := some 5) (v := ?_) (a' := ?_) #[true, true, true, true, true, true, true, true, true, true, true, true, true, true, true, true] rfl rfl (any_of HT_.out (by kernel_rfl)) (fun _ _ _ h => h) (Or.inl ⟨by rfl, ?_⟩) ?_ ?_
              rotate_left
              ·intro w'
               go_simp
               with_reducible rfl
              rotate_left
              ·simp only [Act.put, List.setIfInBounds_toArray, List.set_cons_zero, List.set_cons_succ, i64_w, i32_w]
               rfl
              refine done_ (done_of HT_.out (by kernel_rfl)) ?_
              try go_wp2
              go_roundg kj15
              case measure => have := HK1.out; have := HJ5.out; have := HJ15.out; omega
              case rel => exact ⟨(y184), (wrap64 ((ji23) + 1)), (by first | rfl | (simp; done) | (simp only [← hji23] <;> (first | rfl | simp)) | (simp [*]; done)), H', ⟨by have := HK1.out; have := HJ5.out; have := HJ15.out; omega⟩, ⟨by (with_reducible repeat (first | apply Kd.R_alloc | apply Kd.R_drewN | apply Kd.R_drew)); exact HO186.out⟩, ⟨by repeat (first | (with_reducible first | exact HB.out | apply below_alloc | apply pw_below_drewN | apply below_drew1) | exact HB.out)⟩⟩
             ·rw [if_neg c27] at H
              exact absurd H (by simp)
            ·rw [if_neg c24] at H
             exact absurd H (by simp)
           ·rw [if_neg c20] at H
            exact absurd H (by simp)
          ·rw [if_neg c19] at H
           exact absurd H (by simp)
         ·rw [if_neg c18] at H
          have c18b0 : decide ((wrap64 (x6_15 + 1)) < (a0.size : Int)) = false := decide_eq_false c18
          clear c18
          have H' := Aside0.mk H
          clear H
          go_wp2
          go_roundg kj15
          case measure => have := HK1.out; have := HJ5.out; have := HJ15.out; omega
          case rel => exact ⟨(x5_1), (wrap64 ((wrap64 (x6_15 + 1)) + 1)), (by first | rfl | (simp; done) | (simp [*]; done) | (simp; exact (fun l : List UInt8 => (by cases l <;> rfl : l.isEmpty = !(l != []))) _)), H', ⟨by have := HK1.out; have := HJ5.out; have := HJ15.out; omega⟩, ⟨by (with_reducible repeat (first | apply Kd.R_alloc | apply Kd.R_drewN | apply Kd.R_drew)); exact HO_5.out⟩, ⟨by repeat (first | (with_reducible first | exact HB.out | apply below_alloc | apply pw_below_drewN | apply below_drew1) | exact HB.out)⟩⟩
   ·rw [if_neg c5] at H
    have c5b0 : decide (x6_1 < (a0.size : Int)) = false := decide_eq_false c5
    clear c5
    obtain rfl := Option.some.inj H
    have hcv30 := own_string (P := Tryz.prog) Tryz.underlying24 Tryz.underlying5 Tryz.underlying9 (Kd.own_of_R HO_5.out)
    go_wp2
    go_ret
    exact ⟨by first | rfl | (simp [errW_none, errW_some] <;> rfl) | (simp [*, errW_none, errW_some] <;> rfl), by repeat (first | (with_reducible first | exact HB.out | apply below_alloc | apply pw_below_drewN | apply below_drew1) | exact HB.out)⟩

end Go.Proofs.YtndgaeldndgioaaGreatDoor.QAll
end

section
/- Texts as words, and draws as words: what is written is read back, by the program and by the reference. -/
set_option linter.unusedVariables false
set_option linter.unusedSimpArgs false
set_option maxHeartbeats 200000
namespace Go.Proofs.YtndgaeldndgioaaGreatDoor.Pure
open Go.RowKit Go.Proofs.YtndgaeldndgioaaGreatDoor.QAll Go.Proofs.YtndgaeldndgioaaGreatDoorW.PrintWords Go.Proofs.YtndgaeldndgioaaGreatDoorW.PrintLast
theorem value_all : ((List.range 256).all fun a => decide (script_value.f (twoS (a : Int)) = some ((a : Int), true))) = true := by kernel_rfl
theorem value_two (c : Int) (h0 : 0 ≤ c) (h1 : c ≤ 255) : script_value.f (twoS c) = some (c, true) := by
  obtain ⟨a, rfl⟩ := Int.eq_ofNat_of_zero_le h0
  exact of_decide_eq_true (List.all_eq_true.1 value_all a (List.mem_range.2 (by omega)))
def digTwo (c : Int) : Option Int := (squelchref30_digit.f (bt (twoS c) 0)).bind fun p => (squelchref30_digit.f (bt (twoS c) 1)).map fun q => (wrap64 ((wrap64 (16 * p)) + q)) % 256
theorem dig2_all : ((List.range 256).all fun a => decide (digTwo (a : Int) = some (a : Int))) = true := by kernel_rfl
theorem dig2 (c : Int) (h0 : 0 ≤ c) (h1 : c ≤ 255) : ∃ p q, squelchref30_digit.f (bt (twoS c) 0) = some p ∧ squelchref30_digit.f (bt (twoS c) 1) = some q ∧ (wrap64 ((wrap64 (16 * p)) + q)) % 256 = c := by
  obtain ⟨a, rfl⟩ := Int.eq_ofNat_of_zero_le h0
  have h := of_decide_eq_true (List.all_eq_true.1 dig2_all a (List.mem_range.2 (by omega)))
  unfold digTwo at h
  obtain ⟨p, hp, h⟩ := Option.bind_eq_some_iff.1 h
  obtain ⟨q, hq, h⟩ := Option.map_eq_some_iff.1 h
  exact ⟨p, q, hp, hq, h⟩
theorem bt_list {t : ByteArray} {i : Nat} {c : UInt8} {r : List UInt8} (h : t.toList.drop i = c :: r) : i < t.size ∧ bt t (i : Int) = (c.toNat : Int) ∧ t.toList.drop (i + 1) = r := by
  by_cases hi : i < t.size
  · obtain ⟨c', r', e1, e2, e3⟩ := bt_at t i hi
    rw [h] at e1
    injection e1 with a b
    subst a b
    exact ⟨hi, e3, e2⟩
  · rw [drop_all t i (by omega)] at h
    cases h
theorem two_list (c : Int) (h0 : 0 ≤ c) (h1 : c ≤ 255) : ∃ x y, (twoS c).data.toList = [x, y] ∧ bt (twoS c) 0 = (x.toNat : Int) ∧ bt (twoS c) 1 = (y.toNat : Int) := by
  have hz := two_size c h0 h1
  have hl : (twoS c).data.toList.length = 2 := by rw [← hz]; simp
  match he : (twoS c).data.toList, hl with
  | [x, y], _ =>
    have e : (twoS c).toList.drop 0 = x :: [y] := by rw [Go.ByteArray.toList_eq, he]; rfl
    obtain ⟨_, b0, e1⟩ := bt_list e
    obtain ⟨_, b1, _⟩ := bt_list e1
    exact ⟨x, y, rfl, b0, b1⟩
theorem byte_back (c : Int) (h0 : 0 ≤ c) (h1 : c ≤ 255) : ((UInt8.ofNat c.toNat).toNat : Int) = c := by
  obtain ⟨a, rfl⟩ := Int.eq_ofNat_of_zero_le h0
  have ha : a % 256 = a := Nat.mod_eq_of_lt (by omega)
  simp [ha]
theorem ext_two (t : ByteArray) (i : Nat) (x y : UInt8) (r : List UInt8) (h : t.toList.drop i = x :: y :: r) : (t.extract i (i + 2)).toList = [x, y] := by
  rw [toList_ext, List.drop_take, h, show i + 2 - i = 2 by omega]
  rfl
theorem wrap_lit (i j : Nat) (z : Int) (hz : z = (j : Int)) (h : i + j < 9223372036854775807) : wrap64 ((i : Int) + z) = ((i + j : Nat) : Int) := by subst hz; unfold wrap64; omega
theorem texts_step (t : ByteArray) (hs : t.size ≤ 1000000) (K i : Nat) (acc : List Int) (c : Int) (h0 : 0 ≤ c) (h1 : c ≤ 255) (r : List UInt8) (h : t.toList.drop i = escC c ++ r) (ha : acc.length ≤ 1000000) :
    script_texts.l0 (K + 1) t acc (i : Int) = script_texts.l0 K t (acc ++ [c]) ((i + (escC c).length : Nat) : Int) ∧ t.toList.drop (i + (escC c).length) = r := by
  unfold escC at h ⊢
  by_cases hp : 32 < c ∧ c ≤ 126 ∧ c ≠ 37
  · rw [if_pos hp] at h ⊢
    obtain ⟨hi, hb, hd⟩ := bt_list h
    rw [byte_back c h0 h1] at hb
    refine ⟨?_, hd⟩
    rw [script_texts.l0, if_pos (by omega), if_pos (by omega), hb, if_neg hp.2.2, if_pos (by omega), wrap_lit i 1 1 rfl (by omega)]
    rfl
  · rw [if_neg hp] at h ⊢
    obtain ⟨x, y, hxy, b0, b1⟩ := two_list c h0 h1
    rw [hxy] at h ⊢
    have h' : t.toList.drop i = 37 :: (x :: y :: r) := h
    obtain ⟨hi, hb, hd⟩ := bt_list h'
    obtain ⟨hi1, _, hd1⟩ := bt_list hd
    obtain ⟨hi2, _, hd2⟩ := bt_list hd1
    have hb37 : bt t (i : Int) = 37 := hb
    refine ⟨?_, hd2⟩
    have E1 := Aside0.mk (show wrap64 ((i : Int) + 1) = ((i + 1 : Nat) : Int) from wrap_lit i 1 1 rfl (by omega))
    have E2 := Aside0.mk (show wrap64 ((i : Int) + 2) = ((i + 2 : Nat) : Int) from wrap_lit i 2 2 rfl (by omega))
    have E3 := Aside0.mk (show wrap64 ((i : Int) + 3) = ((i + 3 : Nat) : Int) from wrap_lit i 3 3 rfl (by omega))
    have E4 := Aside0.mk (show wrap64 (((i + 2 : Nat) : Int) + 1) = ((i + 2 + 1 : Nat) : Int) from wrap_lit (i + 2) 1 1 rfl (by omega))
    have ex : t.extract (((i + 1 : Nat) : Int)).toNat (((i + 3 : Nat) : Int)).toNat = twoS c := by
      apply ba_eq
      rw [Int.toNat_natCast, Int.toNat_natCast, ext_two t (i + 1) x y r hd, Go.ByteArray.toList_eq, hxy]
    rw [script_texts.l0, if_pos (by omega), if_pos (by omega), hb37, if_pos rfl, E1.out, E2.out, E3.out, if_neg (by omega), if_pos (by omega), if_pos (by omega), if_pos (by omega), ex, value_two c h0 h1]
    simp only [Option.bind_some]
    rw [if_pos trivial, if_pos (by omega), E4.out]
    rfl
theorem texts_all (t : ByteArray) (hs : t.size ≤ 1000000) : ∀ (bs : List Int) (K i : Nat) (acc : List Int), (∀ b ∈ bs, 0 ≤ b ∧ b ≤ 255) → bs.length + 1 ≤ K → t.toList.drop i = bs.flatMap escC → acc.length + bs.length ≤ 1000000 →
    script_texts.l0 K t acc (i : Int) = some (strOfNums (acc ++ bs), true)
  | _, 0, _, _, _, hK, _, _ => absurd hK (by omega)
  | [], K + 1, i, acc, _, _, h, _ => by
    have hi : t.size ≤ i := by
      have := congrArg List.length h
      rw [List.length_drop, len_eq] at this
      simp at this
      omega
    rw [script_texts.l0, if_neg (by omega), List.append_nil]
  | c :: bs, K + 1, i, acc, hb, hK, h, ha => by
    rw [List.flatMap_cons] at h
    simp only [List.length_cons] at hK ha
    obtain ⟨e, hd⟩ := texts_step t hs K i acc c (hb c (by simp)).1 (hb c (by simp)).2 _ h (by omega)
    rw [e, texts_all t hs bs K _ _ (fun b hbb => hb b (by simp [hbb])) (by omega) hd (by simp; omega)]
    simp
theorem str_bytes (s : ByteArray) : strOfNums (bytesOf s) = s := by
  apply ba_eq
  rw [Go.ByteArray.toList_eq, Go.ByteArray.toList_eq]
  show ((bytesOf s).map fun x => UInt8.ofNat x.toNat) = _
  unfold bytesOf
  rw [List.map_map]
  conv => rhs; rw [← List.map_id s.data.toList]
  apply List.map_congr_left
  intro b _
  simp
theorem bytes_in (s : ByteArray) : ∀ b ∈ bytesOf s, 0 ≤ b ∧ b ≤ 255 := by
  intro b hb
  obtain ⟨c, _, rfl⟩ := List.mem_map.1 hb
  have := c.toNat_lt
  omega
theorem esc_list (s : ByteArray) : (escS s).toList = (bytesOf s).flatMap escC := by
  rw [Go.ByteArray.toList_eq]
  show escL s s.size = _
  unfold escL
  rw [List.take_of_length_le (by rw [bytesOf_length]; exact Nat.le_refl _)]
theorem texts_esc (s : ByteArray) (hs : s.size ≤ 100000) (K : Nat) (hK : s.size + 1 ≤ K) : script_texts.f K (escS s) = some (s, true) := by
  have hl := escL_le s s.size (Nat.le_refl _)
  have hz : (escS s).size = (escL s s.size).length := by rw [← len_eq, Go.ByteArray.toList_eq]; rfl
  have h := texts_all (escS s) (by omega) (bytesOf s) K 0 [] (bytes_in s) (by rw [bytesOf_length]; exact hK) (by rw [List.drop_zero, esc_list]) (by rw [bytesOf_length]; simp; omega)
  unfold script_texts.f
  rw [List.nil_append, str_bytes] at h
  exact h
/-- Texts of any word tell something, no longer than the word. -/
theorem index_some (a : ByteArray) (c : Int) : ∃ v, strings_IndexByte.f a c = some v := ⟨_, rfl⟩
theorem value_some (a : ByteArray) (h : a.size = 2) : ∃ v b, script_value.f a = some (v, b) := by
  unfold script_value.f
  rw [if_pos (by omega)]
  obtain ⟨v1, h1⟩ := index_some (⟨#[48, 49, 50, 51, 52, 53, 54, 55, 56, 57, 65, 66, 67, 68, 69, 70]⟩ : ByteArray) (bt a 0)
  obtain ⟨v2, h2⟩ := index_some (⟨#[48, 49, 50, 51, 52, 53, 54, 55, 56, 57, 65, 66, 67, 68, 69, 70]⟩ : ByteArray) (bt a 1)
  rw [h1, Option.bind_some, if_pos (by omega), h2, Option.bind_some]
  split <;> exact ⟨_, _, rfl⟩
theorem str_size (l : List Int) : (strOfNums l).size = l.length := by
  rw [← len_eq, Go.ByteArray.toList_eq]
  show (l.map fun x => UInt8.ofNat x.toNat).length = _
  simp
theorem texts_some (t : ByteArray) (hs : t.size ≤ 1000000) : ∀ (d K i : Nat) (acc : List Int), t.size - i ≤ d → d + 1 ≤ K → i ≤ t.size → acc.length ≤ i → ∃ r b, script_texts.l0 K t acc (i : Int) = some (r, b) ∧ r.size ≤ t.size
  | _, 0, _, _, _, hK, _, _ => absurd hK (by omega)
  | d, K + 1, i, acc, hd, hK, hi, ha => by
    rw [script_texts.l0]
    by_cases h : i < t.size
    · obtain ⟨d, rfl⟩ : ∃ d', d = d' + 1 := ⟨d - 1, by omega⟩
      have E1 := Aside0.mk (show wrap64 ((i : Int) + 1) = ((i + 1 : Nat) : Int) from wrap_lit i 1 1 rfl (by omega))
      have E2 := Aside0.mk (show wrap64 ((i : Int) + 2) = ((i + 2 : Nat) : Int) from wrap_lit i 2 2 rfl (by omega))
      have E3 := Aside0.mk (show wrap64 ((i : Int) + 3) = ((i + 3 : Nat) : Int) from wrap_lit i 3 3 rfl (by omega))
      have E4 := Aside0.mk (show wrap64 (((i + 2 : Nat) : Int) + 1) = ((i + 2 + 1 : Nat) : Int) from wrap_lit (i + 2) 1 1 rfl (by omega))
      rw [if_pos (by omega), if_pos (by omega), E1.out, E2.out, E3.out, E4.out]
      by_cases hc : bt t (i : Int) = 37
      · rw [if_pos hc]
        by_cases hz : t.size ≤ i + 2
        · rw [if_pos (by omega)]
          exact ⟨_, _, rfl, Nat.zero_le _⟩
        · rw [if_neg (by omega), if_pos (by omega), if_pos (by omega), if_pos (by omega)]
          obtain ⟨v, b, hv⟩ := value_some (t.extract (((i + 1 : Nat) : Int)).toNat (((i + 3 : Nat) : Int)).toNat) (by rw [ByteArray.size_extract]; omega)
          rw [hv]
          simp only [Option.bind_some]
          cases b with
          | true =>
            rw [if_pos rfl, if_pos (by omega)]
            exact texts_some t hs d K (i + 2 + 1) (acc ++ [v]) (by omega) (by omega) (by omega) (by simp; omega)
          | false => exact ⟨_, _, rfl, Nat.zero_le _⟩
      · rw [if_neg hc, if_pos (by omega)]
        exact texts_some t hs d K (i + 1) (acc ++ [bt t (i : Int)]) (by omega) (by omega) (by omega) (by simp; omega)
    · rw [if_neg (by omega)]
      exact ⟨_, _, rfl, by rw [str_size]; omega⟩
theorem bytes_step (t : ByteArray) (hs : t.size ≤ 1000000) (K i : Nat) (acc : List Int) (c : Int) (h0 : 0 ≤ c) (h1 : c ≤ 255) (r : List UInt8) (h : t.toList.drop i = escC c ++ r) (ha : acc.length ≤ 1000000) (hK : 3 ≤ K) :
    ∃ K', K ≤ K' + 3 ∧ squelchref30_bytes.l0 K t true acc (i : Int) = squelchref30_bytes.l0 K' t true (acc ++ [c]) ((i + (escC c).length : Nat) : Int) ∧ t.toList.drop (i + (escC c).length) = r := by
  obtain ⟨K, rfl⟩ : ∃ k, K = k + 3 := ⟨K - 3, by omega⟩
  unfold escC at h ⊢
  by_cases hp : 32 < c ∧ c ≤ 126 ∧ c ≠ 37
  · rw [if_pos hp] at h ⊢
    obtain ⟨hi, hb, hd⟩ := bt_list h
    rw [byte_back c h0 h1] at hb
    refine ⟨K + 1, by omega, ?_, hd⟩
    have hne : (c != 37) = true := bne_iff_ne.2 hp.2.2
    rw [squelchref30_bytes.l0, if_pos (by omega), if_pos rfl, if_pos (by omega), hb, hne, squelchref30_bytes.j1, if_pos rfl, if_pos (by omega), if_pos (by omega), if_pos (by omega), hb, wrap_lit i 1 1 rfl (by omega)]
    rfl
  · rw [if_neg hp] at h ⊢
    obtain ⟨x, y, hxy, b0, b1⟩ := two_list c h0 h1
    rw [hxy] at h ⊢
    have h' : t.toList.drop i = 37 :: (x :: y :: r) := h
    obtain ⟨hi, hb, hd⟩ := bt_list h'
    obtain ⟨hi1, hb1, hd1⟩ := bt_list hd
    obtain ⟨hi2, hb2, hd2⟩ := bt_list hd1
    have hb37 : bt t (i : Int) = 37 := hb
    refine ⟨K, by omega, ?_, hd2⟩
    have E1 := Aside0.mk (show wrap64 ((i : Int) + 1) = ((i + 1 : Nat) : Int) from wrap_lit i 1 1 rfl (by omega))
    have E2 := Aside0.mk (show wrap64 (((i + 1 : Nat) : Int) + 1) = ((i + 1 + 1 : Nat) : Int) from wrap_lit (i + 1) 1 1 rfl (by omega))
    have E3 := Aside0.mk (show wrap64 (((i + 1 + 1 : Nat) : Int) + 1) = ((i + 1 + 1 + 1 : Nat) : Int) from wrap_lit (i + 1 + 1) 1 1 rfl (by omega))
    obtain ⟨p, q, hp1, hq1, hpq⟩ := dig2 c h0 h1
    rw [b0, ← hb1] at hp1
    rw [b1, ← hb2] at hq1
    have hne : ((37 : Int) != 37) = false := rfl
    rw [squelchref30_bytes.l0, if_pos (by omega), if_pos rfl, if_pos (by omega), hb37, hne, squelchref30_bytes.j1, if_neg (by decide), if_pos rfl, E1.out, squelchref30_bytes.j2, E2.out, if_pos (by omega), if_pos (by omega), if_pos (by omega), hp1]
    simp only [Option.bind_some]
    rw [if_pos (by omega), hq1]
    simp only [Option.bind_some]
    rw [if_pos (by omega), E3.out, hpq]
    rfl
theorem bytes_all (t : ByteArray) (hs : t.size ≤ 1000000) : ∀ (bs : List Int) (K i : Nat) (acc : List Int), (∀ b ∈ bs, 0 ≤ b ∧ b ≤ 255) → 3 * bs.length + 1 ≤ K → t.toList.drop i = bs.flatMap escC → acc.length + bs.length ≤ 1000000 →
    squelchref30_bytes.l0 K t true acc (i : Int) = some (strOfNums (acc ++ bs))
  | [], 0, _, _, _, hK, _, _ => absurd hK (by omega)
  | [], K + 1, i, acc, _, _, h, _ => by
    have hi : t.size ≤ i := by
      have := congrArg List.length h
      rw [List.length_drop, len_eq] at this
      simp at this
      omega
    rw [squelchref30_bytes.l0, if_neg (by omega), List.append_nil]
  | c :: bs, K, i, acc, hb, hK, h, ha => by
    rw [List.flatMap_cons] at h
    simp only [List.length_cons] at hK ha
    obtain ⟨K', hK', e, hd⟩ := bytes_step t hs K i acc c (hb c (by simp)).1 (hb c (by simp)).2 _ h (by omega) (by omega)
    rw [e, bytes_all t hs bs K' _ _ (fun b hbb => hb b (by simp [hbb])) (by omega) hd (by simp; omega)]
    simp
theorem hex_step (t : ByteArray) (hs : t.size ≤ 1000000) (K i : Nat) (acc : List Int) (c : Int) (h0 : 0 ≤ c) (h1 : c ≤ 255) (r : List UInt8) (h : t.toList.drop i = (twoS c).data.toList ++ r) (ha : acc.length ≤ 1000000) :
    squelchref30_bytes.l0 (K + 3) t false acc (i : Int) = squelchref30_bytes.l0 K t false (acc ++ [c]) ((i + 2 : Nat) : Int) ∧ t.toList.drop (i + 2) = r := by
  obtain ⟨x, y, hxy, b0, b1⟩ := two_list c h0 h1
  rw [hxy] at h
  have h' : t.toList.drop i = x :: y :: r := h
  obtain ⟨hi1, hb1, hd1⟩ := bt_list h'
  obtain ⟨hi2, hb2, hd2⟩ := bt_list hd1
  refine ⟨?_, hd2⟩
  have E1 := Aside0.mk (show wrap64 ((i : Int) + 1) = ((i + 1 : Nat) : Int) from wrap_lit i 1 1 rfl (by omega))
  have E2 := Aside0.mk (show wrap64 (((i + 1 : Nat) : Int) + 1) = ((i + 1 + 1 : Nat) : Int) from wrap_lit (i + 1) 1 1 rfl (by omega))
  obtain ⟨p, q, hp1, hq1, hpq⟩ := dig2 c h0 h1
  rw [b0, ← hb1] at hp1
  rw [b1, ← hb2] at hq1
  rw [squelchref30_bytes.l0, if_pos (by omega), if_neg (by decide), squelchref30_bytes.j1, if_neg (by decide), if_neg (by decide), squelchref30_bytes.j2, E1.out, if_pos (by omega), if_pos (by omega), if_pos (by omega), hp1]
  simp only [Option.bind_some]
  rw [if_pos (by omega), hq1]
  simp only [Option.bind_some]
  rw [if_pos (by omega), E2.out, hpq]
theorem hex_all (t : ByteArray) (hs : t.size ≤ 1000000) : ∀ (bs : List Int) (K i : Nat) (acc : List Int), (∀ b ∈ bs, 0 ≤ b ∧ b ≤ 255) → 3 * bs.length + 1 ≤ K → t.toList.drop i = bs.flatMap (fun c => (twoS c).data.toList) → acc.length + bs.length ≤ 1000000 →
    squelchref30_bytes.l0 K t false acc (i : Int) = some (strOfNums (acc ++ bs))
  | [], 0, _, _, _, hK, _, _ => absurd hK (by omega)
  | [], K + 1, i, acc, _, _, h, _ => by
    have hi : t.size ≤ i := by
      have := congrArg List.length h
      rw [List.length_drop, len_eq] at this
      simp at this
      omega
    rw [squelchref30_bytes.l0, if_neg (by omega), List.append_nil]
  | c :: bs, K, i, acc, hb, hK, h, ha => by
    rw [List.flatMap_cons] at h
    simp only [List.length_cons] at hK ha
    obtain ⟨K, rfl⟩ : ∃ k, K = k + 3 := ⟨K - 3, by omega⟩
    obtain ⟨e, hd⟩ := hex_step t hs K i acc c (hb c (by simp)).1 (hb c (by simp)).2 _ h (by omega)
    rw [e, hex_all t hs bs K _ _ (fun b hbb => hb b (by simp [hbb])) (by omega) hd (by simp; omega)]
    simp
theorem digit_some (c : Int) : ∃ v, squelchref30_digit.f c = some v := by
  unfold squelchref30_digit.f
  split <;> exact ⟨_, rfl⟩
theorem bytes_some (t : ByteArray) (hs : t.size ≤ 1000000) (m : Bool) : ∀ (d K i : Nat) (acc : List Int), t.size - i ≤ d → 3 * d + 1 ≤ K → i ≤ t.size + 5 → acc.length ≤ i → ∃ r, squelchref30_bytes.l0 K t m acc (i : Int) = some r
  | _, 0, _, _, _, hK, _, _ => absurd hK (by omega)
  | d, K + 1, i, acc, hd, hK, hi, ha => by
    rw [squelchref30_bytes.l0]
    by_cases h : i < t.size
    · obtain ⟨d, rfl⟩ : ∃ d', d = d' + 1 := ⟨d - 1, by omega⟩
      obtain ⟨K, rfl⟩ : ∃ k, K = k + 2 := ⟨K - 2, by omega⟩
      have E1 := Aside0.mk (show wrap64 ((i : Int) + 1) = ((i + 1 : Nat) : Int) from wrap_lit i 1 1 rfl (by omega))
      have E2 := Aside0.mk (show wrap64 (((i + 1 : Nat) : Int) + 1) = ((i + 1 + 1 : Nat) : Int) from wrap_lit (i + 1) 1 1 rfl (by omega))
      have E3 := Aside0.mk (show wrap64 (((i + 1 + 1 : Nat) : Int) + 1) = ((i + 1 + 1 + 1 : Nat) : Int) from wrap_lit (i + 1 + 1) 1 1 rfl (by omega))
      have hj : ∀ (j : Nat), i ≤ j → j ≤ i + 1 → ∃ r, squelchref30_bytes.j2 (K + 1) t m acc (j : Int) = some r := by
        intro j hj1 hj2
        have F1 := Aside0.mk (show wrap64 ((j : Int) + 1) = ((j + 1 : Nat) : Int) from wrap_lit j 1 1 rfl (by omega))
        have F2 := Aside0.mk (show wrap64 (((j + 1 : Nat) : Int) + 1) = ((j + 1 + 1 : Nat) : Int) from wrap_lit (j + 1) 1 1 rfl (by omega))
        rw [squelchref30_bytes.j2, F1.out, F2.out]
        by_cases hz : j + 1 < t.size
        · obtain ⟨v1, h1⟩ := digit_some (bt t (j : Int))
          obtain ⟨v2, h2⟩ := digit_some (bt t ((j + 1 : Nat) : Int))
          rw [if_pos (by omega), if_pos (by omega), if_pos (by omega), h1]
          simp only [Option.bind_some]
          rw [if_pos (by omega), h2]
          simp only [Option.bind_some]
          rw [if_pos (by omega)]
          exact bytes_some t hs m d K (j + 1 + 1) _ (by omega) (by omega) (by omega) (by simp; omega)
        · rw [if_neg (by omega)]
          exact bytes_some t hs m d K (j + 1 + 1) _ (by omega) (by omega) (by omega) (by omega)
      rw [if_pos (by omega)]
      cases m with
      | true =>
        rw [if_pos rfl, if_pos (by omega), squelchref30_bytes.j1]
        cases hc : (bt t (i : Int) != 37) with
        | true =>
          rw [if_pos rfl, if_pos (by omega), if_pos (by omega), if_pos (by omega), E1.out]
          exact bytes_some t hs true d (K + 1) (i + 1) _ (by omega) (by omega) (by omega) (by simp; omega)
        | false =>
          rw [if_neg (by decide), if_pos rfl, E1.out]
          exact hj (i + 1) (by omega) (by omega)
      | false =>
        rw [if_neg (by decide), squelchref30_bytes.j1, if_neg (by decide), if_neg (by decide)]
        exact hj i (by omega) (by omega)
    · rw [if_neg (by omega)]
      exact ⟨_, rfl⟩
theorem hexD_cons (c : Int) (ds : List Int) : (hexD (c :: ds)).toList = (twoS c).data.toList ++ (hexD ds).toList := by
  rw [Go.ByteArray.toList_eq, Go.ByteArray.toList_eq]
  rfl
theorem hexD_size : ∀ (ds : List Int), (∀ b ∈ ds, 0 ≤ b ∧ b ≤ 255) → (hexD ds).size = 2 * ds.length
  | [], _ => rfl
  | c :: ds, h => by
    have hz := two_size c (h c (by simp)).1 (h c (by simp)).2
    have hl : (twoS c).data.toList.length = 2 := by rw [← hz]; simp
    rw [← len_eq, hexD_cons, List.length_append, hl, len_eq, hexD_size ds (fun b hb => h b (by simp [hb])), List.length_cons]
    omega
theorem draws_all : ∀ (ds : List Int) (K : Nat) (acc : List Int), (∀ b ∈ ds, 0 ≤ b ∧ b ≤ 255) → ds.length + 1 ≤ K → drawsL K (hexD ds) acc = some (acc ++ ds, true)
  | _, 0, _, _, hK => absurd hK (by omega)
  | [], K + 1, acc, _, _ => by
    rw [drawsL, if_pos (show (hexD []).size = 0 from rfl), List.append_nil]
  | c :: ds, K + 1, acc, hb, hK => by
    have hz := hexD_size (c :: ds) hb
    have h0 := hb c (by simp)
    have hl : (twoS c).data.toList.length = 2 := by rw [← two_size c h0.1 h0.2]; simp
    simp only [List.length_cons] at hz hK
    have e1 : (hexD (c :: ds)).extract 0 2 = twoS c := by
      apply ba_eq
      rw [toList_ext, hexD_cons, List.take_append_of_le_length (by omega), List.take_of_length_le (by omega), List.drop_zero, Go.ByteArray.toList_eq]
    have e2 : (hexD (c :: ds)).extract 2 (hexD (c :: ds)).size = hexD ds := by
      apply ba_eq
      rw [toList_ext, ← len_eq, List.take_length, hexD_cons, List.drop_append_of_le_length (by omega), List.drop_of_length_le (by omega), List.nil_append]
    rw [drawsL, if_neg (by omega), e1, e2, value_two c h0.1 h0.2]
    simp only [Option.bind_some]
    rw [if_pos trivial, draws_all ds K _ (fun b hbb => hb b (by simp [hbb])) (by omega)]
    simp
theorem value_in (a : ByteArray) (v : Int) (b : Bool) (h : script_value.f a = some (v, b)) : 0 ≤ v ∧ v ≤ 255 := by
  unfold script_value.f at h
  split at h
  · obtain ⟨v1, h1, h⟩ := Option.bind_eq_some_iff.1 h
    split at h
    · obtain ⟨v2, h2, h⟩ := Option.bind_eq_some_iff.1 h
      split at h <;> (obtain ⟨rfl, _⟩ := Prod.mk.inj (Option.some.inj h); omega)
    · cases h
  · cases h
theorem draws_some : ∀ (K : Nat) (s : ByteArray) (acc : List Int), s.size + 1 ≤ K → s.size % 2 = 0 → ∃ r b, drawsL K s acc = some (r, b) ∧ (acc.length ≤ r.length) ∧ r.length ≤ acc.length + s.size ∧ ((∀ z ∈ acc, 0 ≤ z ∧ z ≤ 255) → ∀ z ∈ r, 0 ≤ z ∧ z ≤ 255)
  | 0, _, _, hK, _ => absurd hK (by omega)
  | K + 1, s, acc, hK, he => by
    rw [drawsL]
    by_cases hz : s.size = 0
    · rw [if_pos hz]
      exact ⟨_, _, rfl, Nat.le_refl _, by omega, fun h => h⟩
    · rw [if_neg hz]
      obtain ⟨v, b, hv⟩ := value_some (s.extract 0 2) (by rw [ByteArray.size_extract]; omega)
      have hvi := value_in _ v b hv
      rw [hv]
      simp only [Option.bind_some]
      have hsx : (s.extract 2 s.size).size = s.size - 2 := by simp
      cases b with
      | true =>
        rw [if_pos rfl]
        obtain ⟨r, b, hr, h1, h2, h3⟩ := draws_some K (s.extract 2 s.size) (acc ++ [v]) (by omega) (by omega)
        rw [List.length_append] at h1 h2
        refine ⟨r, b, hr, by simp at h1; omega, by simp at h2; omega, fun h => h3 (fun z hz' => ?_)⟩
        rcases List.mem_append.1 hz' with hz' | hz'
        · exact h z hz'
        · rw [List.mem_singleton] at hz'
          omega
      | false => exact ⟨_, _, rfl, Nat.le_refl _, by omega, fun h => h⟩
end Go.Proofs.YtndgaeldndgioaaGreatDoor.Pure
end

section
/- Walks, written by a program of this session (wip/pp): a Go function comes to what the Lean function beside it tells. -/
namespace Go.Proofs.YtndgaeldndgioaaGreatDoor.QAll
open Go.RowKit Go.Proofs.YtndgaeldndgioaaGreatDoorW.PrintWords Go.Proofs.YtndgaeldndgioaaGreatDoorW.PrintLast Go.Proofs.YtndgaeldndgioaaGreatDoorW.PrintMore
attribute [local go_sem] max2_int min2_int max_two min_two max_three min_three max_four min_four
set_option linter.unusedVariables false
set_option linter.unusedSimpArgs false

def squelchref30_number.l0 : Nat → ByteArray → Int → Int → Int → Option (Int)
 | 0, _, _, _, _ => none
 | k + 1, x0, x3, x4, x5 => if x5 < (x0.size : Int) then (if 0 ≤ x5 then (if (bt x0 x5) = 45 then (squelchref30_number.l0 k x0 x3 (-1) (wrap64 (x5 + 1))) else (squelchref30_number.l0 k x0 (wrap64 ((wrap64 (10 * x3)) + (wrap64 (Int.tmod (bt x0 x5) 16)))) x4 (wrap64 (x5 + 1)))) else (none)) else (some (wrap64 (x3 * x4)))
def squelchref30_number.f (k : Nat) (a0 : ByteArray) : Option (Int) := if (a0.size : Int) > 5 then (some 0) else (squelchref30_number.l0 k a0 0 1 0)
set_option maxHeartbeats 8000000 in
set_option maxRecDepth 100000 in
theorem squelchref30_number.calls (k : Nat) (a0 : ByteArray) (r : Int) (w : World) (h : squelchref30_number.f k a0 = some r) :
  Calls Tryz.prog 20 #[.string a0] w fun e w' => e = .returned (.int .i64 r) ∧ Drawn0 w w' := by
 have H : (if (a0.size : Int) > 5 then (some 0) else (squelchref30_number.l0 k a0 0 1 0)) = some r := h
 clear h
 by_cases c2 : (a0.size : Int) > 5
 ·rw [if_pos c2] at H
  have c2b0 : decide (5 < (a0.size : Int)) = true := decide_eq_true c2
  have c2b1 : decide (5 < a0.size) = true := decide_eq_true (by omega)
  clear c2
  obtain rfl := Option.some.inj H
  go_enter Tryz.func20, Tryz.ntmps20
  go_wp2
  go_ret
  exact ⟨by first | rfl | (simp; done) | (simp [*]; done) | (simp; exact (fun l : List UInt8 => (by cases l <;> rfl : l.isEmpty = !(l != []))) _), by repeat (first | exact Drawn0.refl _ | apply Drawn0.step)⟩
 ·rw [if_neg c2] at H
  have c2b0 : decide (5 < (a0.size : Int)) = false := decide_eq_false c2
  have c2b1 : decide (5 < a0.size) = false := decide_eq_false (by omega)
  clear c2
  have H' := Aside0.mk H
  clear H
  go_enter Tryz.func20, Tryz.ntmps20
  go_wp2
  go_loopg [3, 4, 5] k (fun kq v3 v4 v5 w' => ∃ (x3_1 : Int) (x4_1 : Int) (x5_1 : Int), v3 = .int .i64 x3_1 ∧ v4 = .int .i64 x4_1 ∧ v5 = .int .i64 x5_1 ∧ Aside0 (squelchref30_number.l0 kq a0 x3_1 x4_1 x5_1 = some r) ∧ Aside0 (kq ≤ k) ∧ Drawn0 w w')
  case atStart => exact ⟨(0), (1), (0), (by first | rfl | (simp; done) | (simp [*]; done) | (simp; exact (fun l : List UInt8 => (by cases l <;> rfl : l.isEmpty = !(l != []))) _)), (by first | rfl | (simp; done) | (simp [*]; done) | (simp; exact (fun l : List UInt8 => (by cases l <;> rfl : l.isEmpty = !(l != []))) _)), (by first | rfl | (simp; done) | (simp [*]; done) | (simp; exact (fun l : List UInt8 => (by cases l <;> rfl : l.isEmpty = !(l != []))) _)), H', ⟨Nat.le_refl _⟩, by repeat (first | exact Drawn0.refl _ | apply Drawn0.step)⟩
  case round =>
   clear H'
   try clear c2
   try clear c2b0
   try clear c2b1
   try clear p2
   obtain ⟨x3_1, x4_1, x5_1, rfl, rfl, rfl, HA, HK1, ⟨m1, rfl⟩⟩ := hrel
   cases gk with
   | zero => exact absurd HA.out (by simp [squelchref30_number.l0])
   | succ k1 =>
    have H := HA.out
    clear HA
    simp only [squelchref30_number.l0] at H
    by_cases c3 : x5_1 < (a0.size : Int)
    ·rw [if_pos c3] at H
     have c3b0 : decide (x5_1 < (a0.size : Int)) = true := decide_eq_true c3
     clear c3
     by_cases c4 : 0 ≤ x5_1
     ·rw [if_pos c4] at H
      have c4b0 : decide (0 ≤ x5_1) = true := decide_eq_true c4
      clear c4
      by_cases c6 : (bt a0 x5_1) = 45
      ·rw [if_pos c6] at H
       have c6b0 : ((bt a0 x5_1) == 45) = true := beq_iff_eq.mpr c6
       have c6b1 : ((bt a0 x5_1) != 45) = false := bne_eq_false_iff_eq.mpr c6
       clear c6
       have H' := Aside0.mk H
       clear H
       have p5 : 0 ≤ (x5_1 : Int) := of_decide_eq_true (by first | (with_reducible assumption) | assumption)
       have q5 : x5_1 < (a0.size : Int) := of_decide_eq_true (by first | (with_reducible assumption) | assumption)
       have hx5 := bt_at a0 x5_1
       replace p5 := eq_true p5
       replace q5 := eq_true q5
       go_wp2
       go_roundg k1
       case measure => have := HK1.out; omega
       case rel => exact ⟨(x3_1), ((-1)), (wrap64 (x5_1 + 1)), (by first | rfl | (simp; done) | (simp [*]; done) | (simp; exact (fun l : List UInt8 => (by cases l <;> rfl : l.isEmpty = !(l != []))) _)), (by first | rfl | (simp; done) | (simp [*]; done) | (simp; exact (fun l : List UInt8 => (by cases l <;> rfl : l.isEmpty = !(l != []))) _)), (by first | rfl | (simp; done) | (simp [*]; done) | (simp; exact (fun l : List UInt8 => (by cases l <;> rfl : l.isEmpty = !(l != []))) _)), H', ⟨by have := HK1.out; omega⟩, by repeat (first | exact Drawn0.refl _ | apply Drawn0.step)⟩
      ·rw [if_neg c6] at H
       have c6b0 : ((bt a0 x5_1) == 45) = false := beq_eq_false_iff_ne.mpr c6
       have c6b1 : ((bt a0 x5_1) != 45) = true := bne_iff_ne.mpr c6
       have H' := Aside0.mk H
       clear H
       have p5 : 0 ≤ (x5_1 : Int) := of_decide_eq_true (by first | (with_reducible assumption) | assumption)
       have q5 : x5_1 < (a0.size : Int) := of_decide_eq_true (by first | (with_reducible assumption) | assumption)
       have hx5 := bt_at a0 x5_1
       replace p5 := eq_true p5
       replace q5 := eq_true q5
       have p7 : 0 ≤ (x5_1 : Int) := of_decide_eq_true (by first | (with_reducible assumption) | assumption)
       have q7 : x5_1 < (a0.size : Int) := of_decide_eq_true (by first | (with_reducible assumption) | assumption)
       have hx7 := bt_at a0 x5_1
       replace p7 := eq_true p7
       replace q7 := eq_true q7
       go_wp2
       go_roundg k1
       case measure => have := HK1.out; omega
       case rel => exact ⟨(wrap64 ((wrap64 (10 * x3_1)) + (wrap64 (Int.tmod (bt a0 x5_1) 16)))), (x4_1), (wrap64 (x5_1 + 1)), (by first | rfl | (simp; done) | (simp [*]; done) | (simp; exact (fun l : List UInt8 => (by cases l <;> rfl : l.isEmpty = !(l != []))) _)), (by first | rfl | (simp; done) | (simp [*]; done) | (simp; exact (fun l : List UInt8 => (by cases l <;> rfl : l.isEmpty = !(l != []))) _)), (by first | rfl | (simp; done) | (simp [*]; done) | (simp; exact (fun l : List UInt8 => (by cases l <;> rfl : l.isEmpty = !(l != []))) _)), H', ⟨by have := HK1.out; omega⟩, by repeat (first | exact Drawn0.refl _ | apply Drawn0.step)⟩
     ·rw [if_neg c4] at H
      exact absurd H (by simp)
    ·rw [if_neg c3] at H
     have c3b0 : decide (x5_1 < (a0.size : Int)) = false := decide_eq_false c3
     clear c3
     obtain rfl := Option.some.inj H
     go_wp2
     go_ret
     exact ⟨by first | rfl | (simp; done) | (simp [*]; done) | (simp; exact (fun l : List UInt8 => (by cases l <;> rfl : l.isEmpty = !(l != []))) _), by repeat (first | exact Drawn0.refl _ | apply Drawn0.step)⟩

end Go.Proofs.YtndgaeldndgioaaGreatDoor.QAll
end
