/- Words, walks and plain laws that the row of the law ScriptNodes rests on. -/
import Derived.Test.YtndgaeldndgioaaGreatDoorMScriptNodes0
import Derived.Laws.RangeString
import Derived.Lib.OthersKept
import Derived.RegionTactic
import Derived.Shelf.Strings.Builder1
import Derived.Shelf.Strings.Builder2
import Derived.Shelf.Strings.OnBuilder
import Derived.Shelf.Small.Strs
import Derived.Shelf.Small.Wraps
import Derived.Shelf.Strings.BuilderF
import Derived.Shelf.Strings.BuilderK
import Derived.Shelf.Utf8.RuneCount
import Derived.Shelf.Strings.Builder2Cap
import Derived.Shelf.Strconv.Atoi
import Derived.Shelf.Strconv.Itoa0
import Derived.Shelf.Strconv.Itoa1
import Derived.Shelf.LaysM
import Derived.Shelf.Strconv.Itoa2
import Derived.Shelf.Strconv.Itoa3
import Derived.Shelf.Strconv.AtoiErrFast
import Derived.Shelf.Strconv.ParseIntEmpty
import Derived.Shelf.Strconv.AtoiFail
import Derived.Shelf.Strconv.Clone
import Derived.Shelf.Strconv.SyntaxError
import Derived.Shelf.LaysC
import Derived.Shelf.Strconv.ToError
import Derived.Shelf.Strconv.AtoiErr
import Derived.Shelf.Strconv.ErrVar
import Derived.Shelf.Strconv.Lower
import Derived.Shelf.Strconv.ParseUint10
import Derived.Shelf.Strconv.ParseUint10Empty
import Derived.Shelf.Strconv.ParseUint10Any
import Derived.Shelf.Strconv.ParseInt10
import Derived.Shelf.Strconv.AtoiLong
import Derived.Shelf.Strconv.AtoiInnerAll
import Derived.Shelf.Strconv.RangeError
import Derived.Shelf.Strconv.ToErrorRange
import Derived.Shelf.Strconv.AtoiAll
import Derived.Shelf.Strconv.ErrVarAll
import Derived.Shelf.Strconv.ParseUintEmpty
import Derived.Shelf.Strconv.ParseUint10b64
import Derived.Shelf.Strconv.ParseUint10b32
import Derived.Shelf.Strconv.ParseUint10b16
import Derived.Shelf.Strconv.ParseUint10b8
import Derived.Shelf.Strconv.ParseUint10At
import Derived.Shelf.Strings.Search1
import Derived.Shelf.Strings.Search2
import Derived.Shelf.Strings.Search3
import Derived.Shelf.Strings.Cut
import Derived.Shelf.Strings.Count
import Derived.Shelf.Strings.Shaped
import Derived.Shelf.Strings.Prefix
import Derived.Shelf.Strings.Split
import Derived.Shelf.Strings.SplitShaped
import Derived.Shelf.Unicode.Decode
import Derived.Shelf.Strings.RuneCount
import Derived.Shelf.Strings.Explode
import Derived.Shelf.Unicode.DecodeSlow
import Derived.Shelf.Unicode.DecodeAny
import Derived.Shelf.Strings.BuilderCap
import Derived.Test.YtndgaeldndgioaaGreatDoorProg
import Derived.WalkLawsBesides
import Derived.Lib.AtoiAllCases
import Derived.KernelRfl
section
/- net.Event as the walks have it: its value, its draws in memory; squelchlaw30.Plain and script.same of such. -/
set_option linter.unusedVariables false
set_option linter.unusedSimpArgs false
namespace Go.Proofs.YtndgaeldndgioaaGreatDoor.QAll
open Go.RowKit Go.Proofs.YtndgaeldndgioaaGreatDoorW.PrintWords Go.Proofs.YtndgaeldndgioaaGreatDoorW.PrintLast Go.Proofs.YtndgaeldndgioaaGreatDoorW.PrintMore
open Go.Proofs.YtndgaeldndgioaaGreatDoor.Fl

structure Ev where
  k : Int
  a : Int
  b : Int
  n : Int
  m : Int
  s : ByteArray
  x : Int
  y : Int
  d : List Int
def evV (e : Ev) (A : Option Addr) (c : Nat) : Value := .agg #[.int .i64 e.k, .int .i64 e.a, .int .i64 e.b, .int .i64 e.n, .int .i64 e.m, .string e.s, .complex .f64 (fl e.x) (fl e.y), .slice A e.d.length c]
def EvIn (e : Ev) : Prop := -9999 ≤ e.x ∧ e.x ≤ 9999 ∧ -9999 ≤ e.y ∧ e.y ≤ 9999
set_option maxHeartbeats 8000000 in
set_option maxRecDepth 100000 in
/-- Two events that are alike. -/
theorem same_calls (e : Ev) (A A' : Option Addr) (c c' : Nat) (w : World) (hin : EvIn e) (hd : (Kd.int .u8).C w A e.d.length e.d) (hd' : (Kd.int .u8).C w A' e.d.length e.d) :
    Calls Tryz.prog 72 #[evV e A c, evV e A' c'] w fun r w' => r = .returned (.bool true) ∧ Below w.heap.size w w' := by
  obtain ⟨k, a, b, n, m, s, x, y, d⟩ := e
  obtain ⟨h1, h2, h3, h4⟩ := hin
  simp only at h1 h2 h3 h4 hd hd'
  unfold evV
  simp only
  have HC := Aside0.mk hd
  have HC' := Aside0.mk hd'
  clear hd hd'
  have hx : (FloatKind.f64.format.order (fl x) (fl x) == some .eq) = true := (eq_fl x x h1 h2 h1 h2).trans (decide_eq_true rfl)
  have hy : (FloatKind.f64.format.order (fl y) (fl y) == some .eq) = true := (eq_fl y y h3 h4 h3 h4).trans (decide_eq_true rfl)
  have HB := Aside0.mk (Below.refl w.heap.size w)
  have hcv := fun (W : World) (hb : Below w.heap.size w W) => Kd.C_string (P := Tryz.prog) (src := 24) (dst := 9) (e := 5) (c := c) Tryz.underlying24 Tryz.underlying5 Tryz.underlying9 (Kd.C_below HC.out hb)
  have hcv' := fun (W : World) (hb : Below w.heap.size w W) => Kd.C_string (P := Tryz.prog) (src := 24) (dst := 9) (e := 5) (c := c') Tryz.underlying24 Tryz.underlying5 Tryz.underlying9 (Kd.C_below HC'.out hb)
  go_enter Tryz.func72, Tryz.ntmps72
  go_wp2_with (first | rw [hcv _ (by repeat (first | (with_reducible first | exact HB.out | apply below_alloc | apply pw_below_drewN | apply below_drew1) | exact HB.out))] | rw [hcv' _ (by repeat (first | (with_reducible first | exact HB.out | apply below_alloc | apply pw_below_drewN | apply below_drew1) | exact HB.out))] | simp only [hx, hy])
  go_ret
  exact ⟨rfl, by repeat (first | (with_reducible first | exact HB.out | apply below_alloc | apply pw_below_drewN | apply below_drew1) | exact HB.out)⟩
end Go.Proofs.YtndgaeldndgioaaGreatDoor.QAll
end

section
/- script.number and script.word, walked by hand: a field's address by its letter; one word of an event that read may tell. -/
set_option linter.unusedVariables false
set_option linter.unusedSimpArgs false
namespace Go.Proofs.YtndgaeldndgioaaGreatDoor.QAll
open Go.RowKit Go.Proofs.YtndgaeldndgioaaGreatDoorW.PrintWords Go.Proofs.YtndgaeldndgioaaGreatDoorW.PrintLast Go.Proofs.YtndgaeldndgioaaGreatDoorW.PrintMore
open Go.Proofs.YtndgaeldndgioaaGreatDoor.Fl

/-- Where a letter's number stands in an event. -/
def offI (c : Int) : Nat := if c = 65 then 1 else if c = 66 then 2 else if c = 78 then 3 else 4
set_option maxHeartbeats 1000000 in
set_option maxRecDepth 100000 in
theorem number_calls (g : Nat) (c : Int) (w : World) :
    Calls Tryz.prog 81 #[.pointer (some ⟨g, 0, none⟩), .int .i32 c] w fun e w' => e = .returned (.pointer (some ⟨g, offI c, none⟩)) ∧ Drawn0 w w' := by
  by_cases h1 : c = 65
  · obtain rfl := h1
    go_enter Tryz.func81, Tryz.ntmps81
    go_wp2
    go_ret
    exact ⟨rfl, by repeat (first | exact Drawn0.refl _ | apply Drawn0.step)⟩
  by_cases h2 : c = 66
  · obtain rfl := h2
    go_enter Tryz.func81, Tryz.ntmps81
    go_wp2
    go_ret
    exact ⟨rfl, by repeat (first | exact Drawn0.refl _ | apply Drawn0.step)⟩
  by_cases h3 : c = 78
  · obtain rfl := h3
    go_enter Tryz.func81, Tryz.ntmps81
    go_wp2
    go_ret
    exact ⟨rfl, by repeat (first | exact Drawn0.refl _ | apply Drawn0.step)⟩
  have e1 : (c == 65) = false := beq_false_of_ne h1
  have e2 : (c == 66) = false := beq_false_of_ne h2
  have e3 : (c == 78) = false := beq_false_of_ne h3
  go_enter Tryz.func81, Tryz.ntmps81
  go_wp2
  go_ret
  exact ⟨by unfold offI; rw [if_neg h1, if_neg h2, if_neg h3]; rfl, by repeat (first | exact Drawn0.refl _ | apply Drawn0.step)⟩
theorem cells8 {w : World} {g : Nat} {v0 v1 v2 v3 v4 v5 v6 v7 : Value} {t : TypeId} (h : w.heap[g]? = some (.cells #[v0, v1, v2, v3, v4, v5, v6, v7] t (0, 0))) :
    w.cell? ⟨g, 0, none⟩ = some v0 ∧ w.cell? ⟨g, 1, none⟩ = some v1 ∧ w.cell? ⟨g, 2, none⟩ = some v2 ∧ w.cell? ⟨g, 3, none⟩ = some v3 ∧ w.cell? ⟨g, 4, none⟩ = some v4 ∧ w.cell? ⟨g, 5, none⟩ = some v5 ∧ w.cell? ⟨g, 6, none⟩ = some v6 ∧ w.cell? ⟨g, 7, none⟩ = some v7 := by
  simp [World.cell?, h]
theorem escS_size (s : ByteArray) (h : s.size ≤ 100000) : (escS s).size ≤ 300000 := by
  have := escL_le s s.size (Nat.le_refl _)
  unfold escS
  show (escL s s.size).toArray.size ≤ _
  simp; omega
set_option maxHeartbeats 8000000 in
set_option maxRecDepth 100000 in
theorem word_S (e : Ev) (A : Option Addr) (c : Nat) (w : World) (hE : EnvW w) (hin : EvIn e) (hd : (Kd.int .u8).C w A e.d.length e.d) (hs : e.s.size ≤ 100000) :
    Calls Tryz.prog 73 #[evV e A c, .int .i32 83] w fun r w' => r = .returned (.tuple #[.string (⟨#[61]⟩ ++ escS e.s), .bool (decide ((e.s.size : Int) ≤ 300))]) ∧ Below w.heap.size w w' := by
  obtain ⟨k, a, b, n, m, s, x, y, d⟩ := e
  obtain ⟨h1, h2, h3, h4⟩ := hin
  simp only at h1 h2 h3 h4 hd hs
  unfold evV
  simp only
  have HC := Aside0.mk hd
  clear hd
  go_enter Tryz.func73, Tryz.ntmps73
  go_wp2_with (fail)
  have HB := Aside0.mk ((Below.refl w.heap.size w).alloc (Nat.le_refl _) (.cells #[.int .i64 k, .int .i64 a, .int .i64 b, .int .i64 n, .int .i64 m, .string s, .complex .f64 (fl x) (fl y), .slice A d.length c] 26 (0, 0)))
  have HX := Aside0.mk (heap_alloc_new w (.cells #[.int .i64 k, .int .i64 a, .int .i64 b, .int .i64 n, .int .i64 m, .string s, .complex .f64 (fl x) (fl y), .slice A d.length c] 26 (0, 0)))
  have HZ := Aside0.mk (show w.heap.size < (w.alloc (.cells #[.int .i64 k, .int .i64 a, .int .i64 b, .int .i64 n, .int .i64 m, .string s, .complex .f64 (fl x) (fl y), .slice A d.length c] 26 (0, 0))).heap.size by simp)
  have HE := Aside0.mk (hE.below ((Below.refl w.heap.size w).alloc (Nat.le_refl _) (.cells #[.int .i64 k, .int .i64 a, .int .i64 b, .int .i64 n, .int .i64 m, .string s, .complex .f64 (fl x) (fl y), .slice A d.length c] 26 (0, 0))))
  generalize (w.alloc (.cells #[.int .i64 k, .int .i64 a, .int .i64 b, .int .i64 n, .int .i64 m, .string s, .complex .f64 (fl x) (fl y), .slice A d.length c] 26 (0, 0))) = w0 at HB HX HZ HE ⊢
  obtain ⟨k0, k1, k2, k3, k4, k5, k6, k7⟩ := cells8 HX.out
  have hz := escS_size s hs
  have hz1 : (⟨#[61]⟩ : ByteArray).size = 1 := rfl
  go_region_with (first | (go_at_call 95; (with_reducible refine (script_escape.calls s (escS s) _ (by unfold script_escape.f; rw [if_pos hs])).mono ?_); rintro e w1 ⟨rfl, hb⟩; have n0_ := Aside0.mk (below_step (by repeat (first | (with_reducible first | exact HB.out | apply pw_below_drewN | apply below_drew1) | exact HB.out)) hb); have n1_ := Aside0.mk ((hb.block w.heap.size HZ.out).trans HX.out); have n2_ := Aside0.mk (Nat.lt_of_lt_of_le HZ.out hb.size); clear HB HX HZ hb k0 k1 k2 k3 k4 k5 k6 k7; have HB := n0_; have HX := n1_; have HZ := n2_; clear n0_ n1_ n2_; obtain ⟨k0, k1, k2, k3, k4, k5, k6, k7⟩ := cells8 HX.out))
  all_goals first
    | (exfalso; omega)
    | (go_wp2; go_ret2; exact ⟨rfl, HB.out⟩)
def I64 (n : Int) : Prop := -9223372036854775808 ≤ n ∧ n ≤ 9223372036854775807
def fitsB (n : Int) : Bool := decide (-9999 ≤ n) && decide (n ≤ 9999)
set_option maxHeartbeats 8000000 in
set_option maxRecDepth 100000 in
theorem word_X (e : Ev) (A : Option Addr) (c : Nat) (w : World) (hE : EnvW w) (hin : EvIn e) (hd : (Kd.int .u8).C w A e.d.length e.d) :
    Calls Tryz.prog 73 #[evV e A c, .int .i32 88] w fun r w' => r = .returned (.tuple #[.string (itoaB e.x), .bool true]) ∧ Below w.heap.size w w' := by
  obtain ⟨k, a, b, n, m, s, x, y, d⟩ := e
  obtain ⟨h1, h2, h3, h4⟩ := hin
  simp only at h1 h2 h3 h4 hd
  unfold evV
  simp only
  have HC := Aside0.mk hd
  clear hd
  go_enter Tryz.func73, Tryz.ntmps73
  have HB := Aside0.mk ((Below.refl w.heap.size w).alloc (Nat.le_refl _) (.cells #[.int .i64 k, .int .i64 a, .int .i64 b, .int .i64 n, .int .i64 m, .string s, .complex .f64 (fl x) (fl y), .slice A d.length c] 26 (0, 0)))
  have HX := Aside0.mk (heap_alloc_new w (.cells #[.int .i64 k, .int .i64 a, .int .i64 b, .int .i64 n, .int .i64 m, .string s, .complex .f64 (fl x) (fl y), .slice A d.length c] 26 (0, 0)))
  have HZ := Aside0.mk (show w.heap.size < (w.alloc (.cells #[.int .i64 k, .int .i64 a, .int .i64 b, .int .i64 n, .int .i64 m, .string s, .complex .f64 (fl x) (fl y), .slice A d.length c] 26 (0, 0))).heap.size by simp)
  have HE := Aside0.mk (hE.below ((Below.refl w.heap.size w).alloc (Nat.le_refl _) (.cells #[.int .i64 k, .int .i64 a, .int .i64 b, .int .i64 n, .int .i64 m, .string s, .complex .f64 (fl x) (fl y), .slice A d.length c] 26 (0, 0))))
  go_wp2_with (fail)
  (with_reducible refine (part_fl x h1 h2 _).mono ?_)
  rintro e w1 ⟨rfl, ⟨nd, rfl⟩⟩
  have p1 : decide (-9999 ≤ x) = true := decide_eq_true (by omega)
  have p2 : decide (x ≤ 9999) = true := decide_eq_true (by omega)
  go_wp2_with (fail)
  refine (itoa_any x (by omega) (by omega) _ (HE.out.below (by repeat (first | (with_reducible first | exact Below.refl _ _ | apply pw_below_drewN | apply below_drew1) | exact Below.refl _ _)))).mono ?_
  rintro e w2 ⟨rfl, hb⟩
  go_wp2_with (fail)
  all_goals first
    | (exfalso; omega)
    | (go_ret2; exact ⟨rfl, below_step (by repeat (first | (with_reducible first | exact HB.out | apply pw_below_drewN | apply below_drew1) | exact HB.out)) hb⟩)
    | trace_state
set_option maxHeartbeats 8000000 in
set_option maxRecDepth 100000 in
theorem word_Y (e : Ev) (A : Option Addr) (c : Nat) (w : World) (hE : EnvW w) (hin : EvIn e) (hd : (Kd.int .u8).C w A e.d.length e.d) :
    Calls Tryz.prog 73 #[evV e A c, .int .i32 89] w fun r w' => r = .returned (.tuple #[.string (itoaB e.y), .bool true]) ∧ Below w.heap.size w w' := by
  obtain ⟨k, a, b, n, m, s, x, y, d⟩ := e
  obtain ⟨h1, h2, h3, h4⟩ := hin
  simp only at h1 h2 h3 h4 hd
  unfold evV
  simp only
  have HC := Aside0.mk hd
  clear hd
  go_enter Tryz.func73, Tryz.ntmps73
  have HB := Aside0.mk ((Below.refl w.heap.size w).alloc (Nat.le_refl _) (.cells #[.int .i64 k, .int .i64 a, .int .i64 b, .int .i64 n, .int .i64 m, .string s, .complex .f64 (fl x) (fl y), .slice A d.length c] 26 (0, 0)))
  have HX := Aside0.mk (heap_alloc_new w (.cells #[.int .i64 k, .int .i64 a, .int .i64 b, .int .i64 n, .int .i64 m, .string s, .complex .f64 (fl x) (fl y), .slice A d.length c] 26 (0, 0)))
  have HZ := Aside0.mk (show w.heap.size < (w.alloc (.cells #[.int .i64 k, .int .i64 a, .int .i64 b, .int .i64 n, .int .i64 m, .string s, .complex .f64 (fl x) (fl y), .slice A d.length c] 26 (0, 0))).heap.size by simp)
  have HE := Aside0.mk (hE.below ((Below.refl w.heap.size w).alloc (Nat.le_refl _) (.cells #[.int .i64 k, .int .i64 a, .int .i64 b, .int .i64 n, .int .i64 m, .string s, .complex .f64 (fl x) (fl y), .slice A d.length c] 26 (0, 0))))
  go_wp2_with (fail)
  (with_reducible refine (part_fl y h3 h4 _).mono ?_)
  rintro e w1 ⟨rfl, ⟨nd, rfl⟩⟩
  have p1 : decide (-9999 ≤ y) = true := decide_eq_true (by omega)
  have p2 : decide (y ≤ 9999) = true := decide_eq_true (by omega)
  go_wp2_with (fail)
  refine (itoa_any y (by omega) (by omega) _ (HE.out.below (by repeat (first | (with_reducible first | exact Below.refl _ _ | apply pw_below_drewN | apply below_drew1) | exact Below.refl _ _)))).mono ?_
  rintro e w2 ⟨rfl, hb⟩
  go_wp2_with (fail)
  all_goals first
    | (exfalso; omega)
    | (go_ret2; exact ⟨rfl, below_step (by repeat (first | (with_reducible first | exact HB.out | apply pw_below_drewN | apply below_drew1) | exact HB.out)) hb⟩)
    | trace_state
set_option maxHeartbeats 8000000 in
set_option maxRecDepth 100000 in
theorem word_A (e : Ev) (A : Option Addr) (c : Nat) (w : World) (hE : EnvW w) (hin : EvIn e) (hd : (Kd.int .u8).C w A e.d.length e.d) (hi : I64 e.a) :
    Calls Tryz.prog 73 #[evV e A c, .int .i32 65] w fun r w' => r = .returned (.tuple #[.string (itoaB e.a), .bool (fitsB e.a)]) ∧ Below w.heap.size w w' := by
  obtain ⟨k, a, b, n, m, s, x, y, d⟩ := e
  obtain ⟨h1, h2, h3, h4⟩ := hin
  simp only at h1 h2 h3 h4 hd hi
  unfold evV
  simp only
  have HC := Aside0.mk hd
  clear hd
  go_enter Tryz.func73, Tryz.ntmps73
  have HB := Aside0.mk ((Below.refl w.heap.size w).alloc (Nat.le_refl _) (.cells #[.int .i64 k, .int .i64 a, .int .i64 b, .int .i64 n, .int .i64 m, .string s, .complex .f64 (fl x) (fl y), .slice A d.length c] 26 (0, 0)))
  have HX := Aside0.mk (heap_alloc_new w (.cells #[.int .i64 k, .int .i64 a, .int .i64 b, .int .i64 n, .int .i64 m, .string s, .complex .f64 (fl x) (fl y), .slice A d.length c] 26 (0, 0)))
  have HZ := Aside0.mk (show w.heap.size < (w.alloc (.cells #[.int .i64 k, .int .i64 a, .int .i64 b, .int .i64 n, .int .i64 m, .string s, .complex .f64 (fl x) (fl y), .slice A d.length c] 26 (0, 0))).heap.size by simp)
  have HE := Aside0.mk (hE.below ((Below.refl w.heap.size w).alloc (Nat.le_refl _) (.cells #[.int .i64 k, .int .i64 a, .int .i64 b, .int .i64 n, .int .i64 m, .string s, .complex .f64 (fl x) (fl y), .slice A d.length c] 26 (0, 0))))
  have hcall := fun W => number_calls w.heap.size 65 W
  rw [show offI 65 = 1 from rfl] at hcall
  go_wp2_with (fail)
  (with_reducible refine (hcall _).mono ?_)
  rintro e w1 ⟨rfl, ⟨nd, rfl⟩⟩

  by_cases g1 : -9999 ≤ a
  · by_cases g2 : a ≤ 9999
    · have p1 : decide (-9999 ≤ a) = true := decide_eq_true g1
      have p2 : decide (a ≤ 9999) = true := decide_eq_true g2
      go_wp2_with (fail)
      refine (itoa_any a hi.1 hi.2 _ (HE.out.below (by repeat (first | (with_reducible first | exact Below.refl _ _ | apply pw_below_drewN | apply below_drew1) | exact Below.refl _ _)))).mono ?_
      rintro e w2 ⟨rfl, hb⟩
      go_wp2_with (fail)
      all_goals first
        | (go_ret2; exact ⟨by unfold fitsB; rw [p1, p2]; rfl, below_step (by repeat (first | (with_reducible first | exact HB.out | apply pw_below_drewN | apply below_drew1) | exact HB.out)) hb⟩)
        | trace_state
    · have p1 : decide (-9999 ≤ a) = true := decide_eq_true g1
      have p2 : decide (a ≤ 9999) = false := decide_eq_false g2
      go_wp2_with (fail)
      refine (itoa_any a hi.1 hi.2 _ (HE.out.below (by repeat (first | (with_reducible first | exact Below.refl _ _ | apply pw_below_drewN | apply below_drew1) | exact Below.refl _ _)))).mono ?_
      rintro e w2 ⟨rfl, hb⟩
      go_wp2_with (fail)
      all_goals first
        | (go_ret2; exact ⟨by unfold fitsB; rw [p1, p2]; rfl, below_step (by repeat (first | (with_reducible first | exact HB.out | apply pw_below_drewN | apply below_drew1) | exact HB.out)) hb⟩)
        | trace_state
  · have p1 : decide (-9999 ≤ a) = false := decide_eq_false g1
    go_wp2_with (fail)
    refine (itoa_any a hi.1 hi.2 _ (HE.out.below (by repeat (first | (with_reducible first | exact Below.refl _ _ | apply pw_below_drewN | apply below_drew1) | exact Below.refl _ _)))).mono ?_
    rintro e w2 ⟨rfl, hb⟩
    go_wp2_with (fail)
    all_goals first
      | (go_ret2; exact ⟨by unfold fitsB; rw [p1]; rfl, below_step (by repeat (first | (with_reducible first | exact HB.out | apply pw_below_drewN | apply below_drew1) | exact HB.out)) hb⟩)
      | trace_state
set_option maxHeartbeats 8000000 in
set_option maxRecDepth 100000 in
theorem word_B (e : Ev) (A : Option Addr) (c : Nat) (w : World) (hE : EnvW w) (hin : EvIn e) (hd : (Kd.int .u8).C w A e.d.length e.d) (hi : I64 e.b) :
    Calls Tryz.prog 73 #[evV e A c, .int .i32 66] w fun r w' => r = .returned (.tuple #[.string (itoaB e.b), .bool (fitsB e.b)]) ∧ Below w.heap.size w w' := by
  obtain ⟨k, a, b, n, m, s, x, y, d⟩ := e
  obtain ⟨h1, h2, h3, h4⟩ := hin
  simp only at h1 h2 h3 h4 hd hi
  unfold evV
  simp only
  have HC := Aside0.mk hd
  clear hd
  go_enter Tryz.func73, Tryz.ntmps73
  have HB := Aside0.mk ((Below.refl w.heap.size w).alloc (Nat.le_refl _) (.cells #[.int .i64 k, .int .i64 a, .int .i64 b, .int .i64 n, .int .i64 m, .string s, .complex .f64 (fl x) (fl y), .slice A d.length c] 26 (0, 0)))
  have HX := Aside0.mk (heap_alloc_new w (.cells #[.int .i64 k, .int .i64 a, .int .i64 b, .int .i64 n, .int .i64 m, .string s, .complex .f64 (fl x) (fl y), .slice A d.length c] 26 (0, 0)))
  have HZ := Aside0.mk (show w.heap.size < (w.alloc (.cells #[.int .i64 k, .int .i64 a, .int .i64 b, .int .i64 n, .int .i64 m, .string s, .complex .f64 (fl x) (fl y), .slice A d.length c] 26 (0, 0))).heap.size by simp)
  have HE := Aside0.mk (hE.below ((Below.refl w.heap.size w).alloc (Nat.le_refl _) (.cells #[.int .i64 k, .int .i64 a, .int .i64 b, .int .i64 n, .int .i64 m, .string s, .complex .f64 (fl x) (fl y), .slice A d.length c] 26 (0, 0))))
  have hcall := fun W => number_calls w.heap.size 66 W
  rw [show offI 66 = 2 from rfl] at hcall
  go_wp2_with (fail)
  (with_reducible refine (hcall _).mono ?_)
  rintro e w1 ⟨rfl, ⟨nd, rfl⟩⟩

  by_cases g1 : -9999 ≤ b
  · by_cases g2 : b ≤ 9999
    · have p1 : decide (-9999 ≤ b) = true := decide_eq_true g1
      have p2 : decide (b ≤ 9999) = true := decide_eq_true g2
      go_wp2_with (fail)
      refine (itoa_any b hi.1 hi.2 _ (HE.out.below (by repeat (first | (with_reducible first | exact Below.refl _ _ | apply pw_below_drewN | apply below_drew1) | exact Below.refl _ _)))).mono ?_
      rintro e w2 ⟨rfl, hb⟩
      go_wp2_with (fail)
      all_goals first
        | (go_ret2; exact ⟨by unfold fitsB; rw [p1, p2]; rfl, below_step (by repeat (first | (with_reducible first | exact HB.out | apply pw_below_drewN | apply below_drew1) | exact HB.out)) hb⟩)
        | trace_state
    · have p1 : decide (-9999 ≤ b) = true := decide_eq_true g1
      have p2 : decide (b ≤ 9999) = false := decide_eq_false g2
      go_wp2_with (fail)
      refine (itoa_any b hi.1 hi.2 _ (HE.out.below (by repeat (first | (with_reducible first | exact Below.refl _ _ | apply pw_below_drewN | apply below_drew1) | exact Below.refl _ _)))).mono ?_
      rintro e w2 ⟨rfl, hb⟩
      go_wp2_with (fail)
      all_goals first
        | (go_ret2; exact ⟨by unfold fitsB; rw [p1, p2]; rfl, below_step (by repeat (first | (with_reducible first | exact HB.out | apply pw_below_drewN | apply below_drew1) | exact HB.out)) hb⟩)
        | trace_state
  · have p1 : decide (-9999 ≤ b) = false := decide_eq_false g1
    go_wp2_with (fail)
    refine (itoa_any b hi.1 hi.2 _ (HE.out.below (by repeat (first | (with_reducible first | exact Below.refl _ _ | apply pw_below_drewN | apply below_drew1) | exact Below.refl _ _)))).mono ?_
    rintro e w2 ⟨rfl, hb⟩
    go_wp2_with (fail)
    all_goals first
      | (go_ret2; exact ⟨by unfold fitsB; rw [p1]; rfl, below_step (by repeat (first | (with_reducible first | exact HB.out | apply pw_below_drewN | apply below_drew1) | exact HB.out)) hb⟩)
      | trace_state
set_option maxHeartbeats 8000000 in
set_option maxRecDepth 100000 in
theorem word_N (e : Ev) (A : Option Addr) (c : Nat) (w : World) (hE : EnvW w) (hin : EvIn e) (hd : (Kd.int .u8).C w A e.d.length e.d) (hi : I64 e.n) :
    Calls Tryz.prog 73 #[evV e A c, .int .i32 78] w fun r w' => r = .returned (.tuple #[.string (itoaB e.n), .bool (fitsB e.n)]) ∧ Below w.heap.size w w' := by
  obtain ⟨k, a, b, n, m, s, x, y, d⟩ := e
  obtain ⟨h1, h2, h3, h4⟩ := hin
  simp only at h1 h2 h3 h4 hd hi
  unfold evV
  simp only
  have HC := Aside0.mk hd
  clear hd
  go_enter Tryz.func73, Tryz.ntmps73
  have HB := Aside0.mk ((Below.refl w.heap.size w).alloc (Nat.le_refl _) (.cells #[.int .i64 k, .int .i64 a, .int .i64 b, .int .i64 n, .int .i64 m, .string s, .complex .f64 (fl x) (fl y), .slice A d.length c] 26 (0, 0)))
  have HX := Aside0.mk (heap_alloc_new w (.cells #[.int .i64 k, .int .i64 a, .int .i64 b, .int .i64 n, .int .i64 m, .string s, .complex .f64 (fl x) (fl y), .slice A d.length c] 26 (0, 0)))
  have HZ := Aside0.mk (show w.heap.size < (w.alloc (.cells #[.int .i64 k, .int .i64 a, .int .i64 b, .int .i64 n, .int .i64 m, .string s, .complex .f64 (fl x) (fl y), .slice A d.length c] 26 (0, 0))).heap.size by simp)
  have HE := Aside0.mk (hE.below ((Below.refl w.heap.size w).alloc (Nat.le_refl _) (.cells #[.int .i64 k, .int .i64 a, .int .i64 b, .int .i64 n, .int .i64 m, .string s, .complex .f64 (fl x) (fl y), .slice A d.length c] 26 (0, 0))))
  have hcall := fun W => number_calls w.heap.size 78 W
  rw [show offI 78 = 3 from rfl] at hcall
  go_wp2_with (fail)
  (with_reducible refine (hcall _).mono ?_)
  rintro e w1 ⟨rfl, ⟨nd, rfl⟩⟩

  by_cases g1 : -9999 ≤ n
  · by_cases g2 : n ≤ 9999
    · have p1 : decide (-9999 ≤ n) = true := decide_eq_true g1
      have p2 : decide (n ≤ 9999) = true := decide_eq_true g2
      go_wp2_with (fail)
      refine (itoa_any n hi.1 hi.2 _ (HE.out.below (by repeat (first | (with_reducible first | exact Below.refl _ _ | apply pw_below_drewN | apply below_drew1) | exact Below.refl _ _)))).mono ?_
      rintro e w2 ⟨rfl, hb⟩
      go_wp2_with (fail)
      all_goals first
        | (go_ret2; exact ⟨by unfold fitsB; rw [p1, p2]; rfl, below_step (by repeat (first | (with_reducible first | exact HB.out | apply pw_below_drewN | apply below_drew1) | exact HB.out)) hb⟩)
        | trace_state
    · have p1 : decide (-9999 ≤ n) = true := decide_eq_true g1
      have p2 : decide (n ≤ 9999) = false := decide_eq_false g2
      go_wp2_with (fail)
      refine (itoa_any n hi.1 hi.2 _ (HE.out.below (by repeat (first | (with_reducible first | exact Below.refl _ _ | apply pw_below_drewN | apply below_drew1) | exact Below.refl _ _)))).mono ?_
      rintro e w2 ⟨rfl, hb⟩
      go_wp2_with (fail)
      all_goals first
        | (go_ret2; exact ⟨by unfold fitsB; rw [p1, p2]; rfl, below_step (by repeat (first | (with_reducible first | exact HB.out | apply pw_below_drewN | apply below_drew1) | exact HB.out)) hb⟩)
        | trace_state
  · have p1 : decide (-9999 ≤ n) = false := decide_eq_false g1
    go_wp2_with (fail)
    refine (itoa_any n hi.1 hi.2 _ (HE.out.below (by repeat (first | (with_reducible first | exact Below.refl _ _ | apply pw_below_drewN | apply below_drew1) | exact Below.refl _ _)))).mono ?_
    rintro e w2 ⟨rfl, hb⟩
    go_wp2_with (fail)
    all_goals first
      | (go_ret2; exact ⟨by unfold fitsB; rw [p1]; rfl, below_step (by repeat (first | (with_reducible first | exact HB.out | apply pw_below_drewN | apply below_drew1) | exact HB.out)) hb⟩)
      | trace_state
set_option maxHeartbeats 8000000 in
set_option maxRecDepth 100000 in
theorem word_M (e : Ev) (A : Option Addr) (c : Nat) (w : World) (hE : EnvW w) (hin : EvIn e) (hd : (Kd.int .u8).C w A e.d.length e.d) (hi : I64 e.m) :
    Calls Tryz.prog 73 #[evV e A c, .int .i32 77] w fun r w' => r = .returned (.tuple #[.string (itoaB e.m), .bool (fitsB e.m)]) ∧ Below w.heap.size w w' := by
  obtain ⟨k, a, b, n, m, s, x, y, d⟩ := e
  obtain ⟨h1, h2, h3, h4⟩ := hin
  simp only at h1 h2 h3 h4 hd hi
  unfold evV
  simp only
  have HC := Aside0.mk hd
  clear hd
  go_enter Tryz.func73, Tryz.ntmps73
  have HB := Aside0.mk ((Below.refl w.heap.size w).alloc (Nat.le_refl _) (.cells #[.int .i64 k, .int .i64 a, .int .i64 b, .int .i64 n, .int .i64 m, .string s, .complex .f64 (fl x) (fl y), .slice A d.length c] 26 (0, 0)))
  have HX := Aside0.mk (heap_alloc_new w (.cells #[.int .i64 k, .int .i64 a, .int .i64 b, .int .i64 n, .int .i64 m, .string s, .complex .f64 (fl x) (fl y), .slice A d.length c] 26 (0, 0)))
  have HZ := Aside0.mk (show w.heap.size < (w.alloc (.cells #[.int .i64 k, .int .i64 a, .int .i64 b, .int .i64 n, .int .i64 m, .string s, .complex .f64 (fl x) (fl y), .slice A d.length c] 26 (0, 0))).heap.size by simp)
  have HE := Aside0.mk (hE.below ((Below.refl w.heap.size w).alloc (Nat.le_refl _) (.cells #[.int .i64 k, .int .i64 a, .int .i64 b, .int .i64 n, .int .i64 m, .string s, .complex .f64 (fl x) (fl y), .slice A d.length c] 26 (0, 0))))
  have hcall := fun W => number_calls w.heap.size 77 W
  rw [show offI 77 = 4 from rfl] at hcall
  go_wp2_with (fail)
  (with_reducible refine (hcall _).mono ?_)
  rintro e w1 ⟨rfl, ⟨nd, rfl⟩⟩

  by_cases g1 : -9999 ≤ m
  · by_cases g2 : m ≤ 9999
    · have p1 : decide (-9999 ≤ m) = true := decide_eq_true g1
      have p2 : decide (m ≤ 9999) = true := decide_eq_true g2
      go_wp2_with (fail)
      refine (itoa_any m hi.1 hi.2 _ (HE.out.below (by repeat (first | (with_reducible first | exact Below.refl _ _ | apply pw_below_drewN | apply below_drew1) | exact Below.refl _ _)))).mono ?_
      rintro e w2 ⟨rfl, hb⟩
      go_wp2_with (fail)
      all_goals first
        | (go_ret2; exact ⟨by unfold fitsB; rw [p1, p2]; rfl, below_step (by repeat (first | (with_reducible first | exact HB.out | apply pw_below_drewN | apply below_drew1) | exact HB.out)) hb⟩)
        | trace_state
    · have p1 : decide (-9999 ≤ m) = true := decide_eq_true g1
      have p2 : decide (m ≤ 9999) = false := decide_eq_false g2
      go_wp2_with (fail)
      refine (itoa_any m hi.1 hi.2 _ (HE.out.below (by repeat (first | (with_reducible first | exact Below.refl _ _ | apply pw_below_drewN | apply below_drew1) | exact Below.refl _ _)))).mono ?_
      rintro e w2 ⟨rfl, hb⟩
      go_wp2_with (fail)
      all_goals first
        | (go_ret2; exact ⟨by unfold fitsB; rw [p1, p2]; rfl, below_step (by repeat (first | (with_reducible first | exact HB.out | apply pw_below_drewN | apply below_drew1) | exact HB.out)) hb⟩)
        | trace_state
  · have p1 : decide (-9999 ≤ m) = false := decide_eq_false g1
    go_wp2_with (fail)
    refine (itoa_any m hi.1 hi.2 _ (HE.out.below (by repeat (first | (with_reducible first | exact Below.refl _ _ | apply pw_below_drewN | apply below_drew1) | exact Below.refl _ _)))).mono ?_
    rintro e w2 ⟨rfl, hb⟩
    go_wp2_with (fail)
    all_goals first
      | (go_ret2; exact ⟨by unfold fitsB; rw [p1]; rfl, below_step (by repeat (first | (with_reducible first | exact HB.out | apply pw_below_drewN | apply below_drew1) | exact HB.out)) hb⟩)
      | trace_state
end Go.Proofs.YtndgaeldndgioaaGreatDoor.QAll
end

section
/- script.word of a tick's draws, walked by hand. -/
set_option linter.unusedVariables false
set_option linter.unusedSimpArgs false
namespace Go.Proofs.YtndgaeldndgioaaGreatDoor.QAll
open Go.RowKit Go.Proofs.YtndgaeldndgioaaGreatDoorW.PrintWords Go.Proofs.YtndgaeldndgioaaGreatDoorW.PrintLast Go.Proofs.YtndgaeldndgioaaGreatDoorW.PrintMore
open Go.Proofs.YtndgaeldndgioaaGreatDoor.Fl

def hexD (d : List Int) : ByteArray := ⟨(d.flatMap fun c => (twoS c).data.toList).toArray⟩
theorem hexD_snoc (d : List Int) (c : Int) : hexD (d ++ [c]) = hexD d ++ twoS c := by
  have h : ∀ a b : ByteArray, a.data.toList = b.data.toList → a = b := fun a b h => by
    obtain ⟨a⟩ := a
    obtain ⟨b⟩ := b
    congr 1
    exact Array.ext' h
  apply h
  unfold hexD
  rw [List.flatMap_append]
  simp
theorem hexD_size : ∀ (d : List Int), (∀ c ∈ d, 0 ≤ c ∧ c ≤ 255) → (hexD d).size = 2 * d.length
  | [], _ => rfl
  | c :: d, h => by
    have h1 := hexD_size d (fun c hc => h c (List.mem_cons_of_mem _ hc))
    have h2 := two_size c (h c List.mem_cons_self).1 (h c List.mem_cons_self).2
    have e : hexD (c :: d) = twoS c ++ hexD d := by
      have hh : ∀ a b : ByteArray, a.data.toList = b.data.toList → a = b := fun a b h => by
        obtain ⟨a⟩ := a
        obtain ⟨b⟩ := b
        congr 1
        exact Array.ext' h
      apply hh
      unfold hexD
      simp
    rw [e, ByteArray.size_append, h1, h2, List.length_cons]
    omega
set_option maxHeartbeats 8000000 in
set_option maxRecDepth 100000 in
theorem word_D (e : Ev) (A : Option Addr) (c : Nat) (w : World) (hd : (Kd.int .u8).C w A e.d.length e.d) (hb : ∀ z ∈ e.d, 0 ≤ z ∧ z ≤ 255) (hl : e.d.length ≤ 100000) :
    Calls Tryz.prog 73 #[evV e A c, .int .i32 68] w fun r w' => r = .returned (.tuple #[.string (⟨#[35]⟩ ++ hexD e.d), .bool (decide ((e.d.length : Int) ≤ 16))]) ∧ Below w.heap.size w w' := by
  obtain ⟨k, a, b, n, m, s, x, y, d⟩ := e
  simp only at hd hb hl
  unfold evV
  simp only
  have HC := Aside0.mk hd
  have HQ := Aside0.mk hb
  clear hd hb
  have hz1 : (⟨#[35]⟩ : ByteArray).size = 1 := rfl
  go_enter Tryz.func73, Tryz.ntmps73
  have HB := Aside0.mk ((Below.refl w.heap.size w).alloc (Nat.le_refl _) (.cells #[.int .i64 k, .int .i64 a, .int .i64 b, .int .i64 n, .int .i64 m, .string s, .complex .f64 (fl x) (fl y), .slice A d.length c] 26 (0, 0)))
  go_wp2_with (fail)
  have HX := Aside0.mk (heap_alloc_new w (.cells #[.int .i64 k, .int .i64 a, .int .i64 b, .int .i64 n, .int .i64 m, .string s, .complex .f64 (fl x) (fl y), .slice A d.length c] 26 (0, 0)))
  generalize (w.alloc (.cells #[.int .i64 k, .int .i64 a, .int .i64 b, .int .i64 n, .int .i64 m, .string s, .complex .f64 (fl x) (fl y), .slice A d.length c] 26 (0, 0))) = w0 at HB HX ⊢
  go_loopw [8, 31] (fun v8 v31 wr => ∃ j : Nat, j ≤ d.length ∧ v8 = .string (⟨#[35]⟩ ++ hexD (d.take j)) ∧ v31 = .int .i64 j ∧ Aside0 (Below w.heap.size w wr) ∧ Aside0 (wr.heap[w.heap.size]? = some (.cells #[.int .i64 k, .int .i64 a, .int .i64 b, .int .i64 n, .int .i64 m, .string s, .complex .f64 (fl x) (fl y), .slice A d.length c] 26 (0, 0)))) (fun _ v31 _ => d.length - (intOf v31).toNat)
  case atStart => exact ⟨0, Nat.zero_le _, by rfl, rfl, HB, HX⟩
  case round =>
    obtain ⟨j, hj, rfl, rfl, HB1, HX1⟩ := hrel
    clear HB HX
    obtain ⟨k0, k1, k2, k3, k4, k5, k6, k7⟩ := cells8 HX1.out
    have hbt : ∀ z ∈ d.take j, 0 ≤ z ∧ z ≤ 255 := fun z hz => HQ.out z (List.mem_of_mem_take hz)
    have hsz := hexD_size (d.take j) hbt
    rw [List.length_take, Nat.min_eq_left hj] at hsz
    clear hbt
    by_cases hlt : j < d.length
    · obtain ⟨ad, hA, hx⟩ := Kd.at_int (Kd.C_below HC.out HB1.out) (j : Int) (by omega) (by omega)
      subst hA
      have er : rd d (j : Int) = d[j] := by
        unfold rd
        rw [Int.toNat_natCast, List.getD_eq_getElem?_getD, List.getElem?_eq_getElem hlt]
        rfl
      have hr := HQ.out d[j] (List.getElem_mem hlt)
      rw [← er] at hr
      have hsz2 := two_size (rd d (j : Int)) hr.1 hr.2
      have hi0 : (0 : Int) ≤ j := by omega
      have hi1 : (j : Int) < d.length := by omega
      have ht : d.take (j + 1) = d.take j ++ [rd d (j : Int)] := by rw [List.take_succ_eq_append_getElem hlt, er]
      have HT := Aside0.mk ht
      have HE := Aside0.mk er
      clear ht er
      rw [Int.toNat_natCast] at hx
      go_wp2_with (first | (go_at_call 96; (with_reducible refine (script_digits.calls (rd d (j : Int)) (twoS (rd d (j : Int))) _ (dig _ hr.1 hr.2)).mono ?_); rintro e w2 ⟨rfl, ⟨nd, rfl⟩⟩))
      all_goals go_roundw
      case rel => exact ⟨j + 1, by omega, by rw [HT.out, hexD_snoc, ByteArray.append_assoc], by go_num, ⟨pw_below_drewN HB1.out _⟩, HX1⟩
      case measure => simp [intOf]; omega
    · obtain rfl : j = d.length := by omega
      go_wp2_with (fail)
      repeat (go_quiet (fail); try go_wp2)
      go_ret2
      exact ⟨by simp only [List.take_length]; rfl, by repeat (first | (with_reducible first | exact HB1.out | apply pw_below_drewN | apply below_drew1) | exact HB1.out)⟩
end Go.Proofs.YtndgaeldndgioaaGreatDoor.QAll
end

section
/- Walks, written by a program of this session (wip/pp): a Go function comes to what the Lean function beside it tells. -/
namespace Go.Proofs.YtndgaeldndgioaaGreatDoor.QAll
open Go.RowKit Go.Proofs.YtndgaeldndgioaaGreatDoorW.PrintWords Go.Proofs.YtndgaeldndgioaaGreatDoorW.PrintLast Go.Proofs.YtndgaeldndgioaaGreatDoorW.PrintMore
attribute [local go_sem] max2_int min2_int max_two min_two max_three min_three max_four min_four
set_option linter.unusedVariables false
set_option linter.unusedSimpArgs false

def script_forms.f  : Option (List ByteArray) := some (([(⟨#[]⟩ : ByteArray), (⟨#[75, 69, 89, 83, 32, 65, 83]⟩ : ByteArray), (⟨#[75, 73, 83, 83, 32, 65, 83]⟩ : ByteArray), (⟨#[82, 69, 65, 68, 32, 65]⟩ : ByteArray), (⟨#[84, 73, 67, 75, 32, 68]⟩ : ByteArray), (⟨#[76, 79, 83, 69, 32, 65, 66]⟩ : ByteArray), (⟨#[83, 80, 79, 73, 76, 32, 65, 66, 78, 77]⟩ : ByteArray), (⟨#[66, 76, 79, 67, 75, 32, 65, 66]⟩ : ByteArray), (⟨#[79, 80, 69, 78, 32, 65, 66]⟩ : ByteArray), (⟨#[83, 84, 65, 78, 68, 32, 65, 88, 89, 78]⟩ : ByteArray), (⟨#[77, 79, 86, 69, 32, 65, 88, 89]⟩ : ByteArray), (⟨#[84, 85, 82, 78, 32, 65, 88, 89]⟩ : ByteArray)] : List ByteArray))
set_option maxHeartbeats 8000000 in
set_option maxRecDepth 100000 in
theorem script_forms.calls  (r : List ByteArray) (w : World) (h : script_forms.f  = some r) :
  Calls Tryz.prog 74 #[] w fun e w' => ∃ v0_ : Value, e = .returned (v0_) ∧ Kd.R Kd.string 9 w' w.heap.size (fun _ => True) v0_ r ∧ Below w.heap.size w w' := by
 have HB := Aside0.mk (Below.refl w.heap.size w)
 have H : (some (([(⟨#[]⟩ : ByteArray), (⟨#[75, 69, 89, 83, 32, 65, 83]⟩ : ByteArray), (⟨#[75, 73, 83, 83, 32, 65, 83]⟩ : ByteArray), (⟨#[82, 69, 65, 68, 32, 65]⟩ : ByteArray), (⟨#[84, 73, 67, 75, 32, 68]⟩ : ByteArray), (⟨#[76, 79, 83, 69, 32, 65, 66]⟩ : ByteArray), (⟨#[83, 80, 79, 73, 76, 32, 65, 66, 78, 77]⟩ : ByteArray), (⟨#[66, 76, 79, 67, 75, 32, 65, 66]⟩ : ByteArray), (⟨#[79, 80, 69, 78, 32, 65, 66]⟩ : ByteArray), (⟨#[83, 84, 65, 78, 68, 32, 65, 88, 89, 78]⟩ : ByteArray), (⟨#[77, 79, 86, 69, 32, 65, 88, 89]⟩ : ByteArray), (⟨#[84, 85, 82, 78, 32, 65, 88, 89]⟩ : ByteArray)] : List ByteArray))) = some r := h
 clear h
 obtain ⟨y103, hy103⟩ : ∃ y_ : List ByteArray, y_ = (([(⟨#[]⟩ : ByteArray), (⟨#[75, 69, 89, 83, 32, 65, 83]⟩ : ByteArray), (⟨#[75, 73, 83, 83, 32, 65, 83]⟩ : ByteArray), (⟨#[82, 69, 65, 68, 32, 65]⟩ : ByteArray), (⟨#[84, 73, 67, 75, 32, 68]⟩ : ByteArray), (⟨#[76, 79, 83, 69, 32, 65, 66]⟩ : ByteArray), (⟨#[83, 80, 79, 73, 76, 32, 65, 66, 78, 77]⟩ : ByteArray), (⟨#[66, 76, 79, 67, 75, 32, 65, 66]⟩ : ByteArray), (⟨#[79, 80, 69, 78, 32, 65, 66]⟩ : ByteArray), (⟨#[83, 84, 65, 78, 68, 32, 65, 88, 89, 78]⟩ : ByteArray), (⟨#[77, 79, 86, 69, 32, 65, 88, 89]⟩ : ByteArray), (⟨#[84, 85, 82, 78, 32, 65, 88, 89]⟩ : ByteArray)] : List ByteArray)) := ⟨_, rfl⟩
 replace H : (some y103) = some r := by first | (rw [hy103]; with_reducible exact H) | (have H2_ := (Option.bind_some _ _).symm.trans H; rw [hy103]; with_reducible exact H2_) | (have H2_ := (Option.bind_some _ _).symm.trans H; with_reducible exact H2_) | with_reducible exact H | (rw [hy103]; exact H) | exact H
 have Ny103 := Aside0.mk hy103
 clear hy103
 obtain rfl := Option.some.inj H
 go_enter Tryz.func74, Tryz.ntmps74
 go_wp2_with (first | ((with_reducible refine gate_dst (N := 1) rfl ?_); refine Kd.R_lit Kd.string _ 9 ?hg (N := 1) ?hd (xs := ([(⟨#[]⟩ : ByteArray), (⟨#[75, 69, 89, 83, 32, 65, 83]⟩ : ByteArray), (⟨#[75, 73, 83, 83, 32, 65, 83]⟩ : ByteArray), (⟨#[82, 69, 65, 68, 32, 65]⟩ : ByteArray), (⟨#[84, 73, 67, 75, 32, 68]⟩ : ByteArray), (⟨#[76, 79, 83, 69, 32, 65, 66]⟩ : ByteArray), (⟨#[83, 80, 79, 73, 76, 32, 65, 66, 78, 77]⟩ : ByteArray), (⟨#[66, 76, 79, 67, 75, 32, 65, 66]⟩ : ByteArray), (⟨#[79, 80, 69, 78, 32, 65, 66]⟩ : ByteArray), (⟨#[83, 84, 65, 78, 68, 32, 65, 88, 89, 78]⟩ : ByteArray), (⟨#[77, 79, 86, 69, 32, 65, 88, 89]⟩ : ByteArray), (⟨#[84, 85, 82, 78, 32, 65, 88, 89]⟩ : ByteArray)] : List ByteArray)) (inner := [.string (⟨#[]⟩ : ByteArray), .string (⟨#[75, 69, 89, 83, 32, 65, 83]⟩ : ByteArray), .string (⟨#[75, 73, 83, 83, 32, 65, 83]⟩ : ByteArray), .string (⟨#[82, 69, 65, 68, 32, 65]⟩ : ByteArray), .string (⟨#[84, 73, 67, 75, 32, 68]⟩ : ByteArray), .string (⟨#[76, 79, 83, 69, 32, 65, 66]⟩ : ByteArray), .string (⟨#[83, 80, 79, 73, 76, 32, 65, 66, 78, 77]⟩ : ByteArray), .string (⟨#[66, 76, 79, 67, 75, 32, 65, 66]⟩ : ByteArray), .string (⟨#[79, 80, 69, 78, 32, 65, 66]⟩ : ByteArray), .string (⟨#[83, 84, 65, 78, 68, 32, 65, 88, 89, 78]⟩ : ByteArray), .string (⟨#[77, 79, 86, 69, 32, 65, 88, 89]⟩ : ByteArray), .string (⟨#[84, 85, 82, 78, 32, 65, 88, 89]⟩ : ByteArray)]) (ok := fun _ => True) (okp := fun _ => True) ?hr ?hp (fun _ hk => hk) trivial (Below.refl _ _) (Nat.le_refl _) (by simp) ?_; (case hd => rfl); (case hg => rfl); (case hr => first | (go_simp; done) | (go_simp; rfl)); (case hp => exact (Reps.one (show Kd.M Kd.string _ _ _ (⟨#[]⟩ : ByteArray) [.string (⟨#[]⟩ : ByteArray)] from rfl) (Reps.one (show Kd.M Kd.string _ _ _ (⟨#[75, 69, 89, 83, 32, 65, 83]⟩ : ByteArray) [.string (⟨#[75, 69, 89, 83, 32, 65, 83]⟩ : ByteArray)] from rfl) (Reps.one (show Kd.M Kd.string _ _ _ (⟨#[75, 73, 83, 83, 32, 65, 83]⟩ : ByteArray) [.string (⟨#[75, 73, 83, 83, 32, 65, 83]⟩ : ByteArray)] from rfl) (Reps.one (show Kd.M Kd.string _ _ _ (⟨#[82, 69, 65, 68, 32, 65]⟩ : ByteArray) [.string (⟨#[82, 69, 65, 68, 32, 65]⟩ : ByteArray)] from rfl) (Reps.one (show Kd.M Kd.string _ _ _ (⟨#[84, 73, 67, 75, 32, 68]⟩ : ByteArray) [.string (⟨#[84, 73, 67, 75, 32, 68]⟩ : ByteArray)] from rfl) (Reps.one (show Kd.M Kd.string _ _ _ (⟨#[76, 79, 83, 69, 32, 65, 66]⟩ : ByteArray) [.string (⟨#[76, 79, 83, 69, 32, 65, 66]⟩ : ByteArray)] from rfl) (Reps.one (show Kd.M Kd.string _ _ _ (⟨#[83, 80, 79, 73, 76, 32, 65, 66, 78, 77]⟩ : ByteArray) [.string (⟨#[83, 80, 79, 73, 76, 32, 65, 66, 78, 77]⟩ : ByteArray)] from rfl) (Reps.one (show Kd.M Kd.string _ _ _ (⟨#[66, 76, 79, 67, 75, 32, 65, 66]⟩ : ByteArray) [.string (⟨#[66, 76, 79, 67, 75, 32, 65, 66]⟩ : ByteArray)] from rfl) (Reps.one (show Kd.M Kd.string _ _ _ (⟨#[79, 80, 69, 78, 32, 65, 66]⟩ : ByteArray) [.string (⟨#[79, 80, 69, 78, 32, 65, 66]⟩ : ByteArray)] from rfl) (Reps.one (show Kd.M Kd.string _ _ _ (⟨#[83, 84, 65, 78, 68, 32, 65, 88, 89, 78]⟩ : ByteArray) [.string (⟨#[83, 84, 65, 78, 68, 32, 65, 88, 89, 78]⟩ : ByteArray)] from rfl) (Reps.one (show Kd.M Kd.string _ _ _ (⟨#[77, 79, 86, 69, 32, 65, 88, 89]⟩ : ByteArray) [.string (⟨#[77, 79, 86, 69, 32, 65, 88, 89]⟩ : ByteArray)] from rfl) (Reps.one (show Kd.M Kd.string _ _ _ (⟨#[84, 85, 82, 78, 32, 65, 88, 89]⟩ : ByteArray) [.string (⟨#[84, 85, 82, 78, 32, 65, 88, 89]⟩ : ByteArray)] from rfl) (Reps.none _ _)))))))))))))); intro v104 w1 ho2 hb hg_ hnew_; clear hg_ hnew_; (first | rw [← Ny103.out] at ho2 | (simp only [Int.reduceToNat] at ho2; rw [← Ny103.out] at ho2)); have n0_ := Aside0.mk (Kd.R_lower ho2 (below_size (by repeat (first | (with_reducible first | exact HB.out | apply below_alloc | apply pw_below_drewN | apply below_drew1) | exact HB.out)))); have n1_ := Aside0.mk (below_step (by repeat (first | (with_reducible first | exact HB.out | apply below_alloc | apply pw_below_drewN | apply below_drew1) | exact HB.out)) hb); clear HB; have HO105 := n0_; have HB := n1_; clear n0_ n1_; clear hb ho2))
 go_ret
 exact ⟨_, by first | rfl | (simp [errW_none, errW_some] <;> rfl) | (simp [*, errW_none, errW_some] <;> rfl), by (with_reducible repeat (first | apply Kd.R_alloc | apply Kd.R_drewN | apply Kd.R_drew)); exact HO105.out, by repeat (first | (with_reducible first | exact HB.out | apply below_alloc | apply pw_below_drewN | apply below_drew1) | exact HB.out)⟩

end Go.Proofs.YtndgaeldndgioaaGreatDoor.QAll
end

section
/- Walks, written by a program of this session (wip/pp): a Go function comes to what the Lean function beside it tells. -/
namespace Go.Proofs.YtndgaeldndgioaaGreatDoor.QAll
open Go.RowKit Go.Proofs.YtndgaeldndgioaaGreatDoorW.PrintWords Go.Proofs.YtndgaeldndgioaaGreatDoorW.PrintLast Go.Proofs.YtndgaeldndgioaaGreatDoorW.PrintMore
attribute [local go_sem] max2_int min2_int max_two min_two max_three min_three max_four min_four
set_option linter.unusedVariables false
set_option linter.unusedSimpArgs false

def script_form.f (a0 : Int) : Option (ByteArray × ByteArray) := (script_forms.f).bind fun t106 => (if a0 < 1 then (some ((⟨#[]⟩ : ByteArray), (⟨#[]⟩ : ByteArray))) else (if a0 ≥ (t106.length : Int) then (some ((⟨#[]⟩ : ByteArray), (⟨#[]⟩ : ByteArray))) else (if 0 ≤ a0 then (if a0 < (t106.length : Int) then ((strings_Cut.f (rdOf ByteArray.empty t106 a0) (⟨#[32]⟩ : ByteArray)).bind fun bt110 => (some (bt110.1, bt110.2.1))) else (none)) else (none))))
set_option maxHeartbeats 8000000 in
set_option maxRecDepth 100000 in
theorem script_form.calls (a0 : Int) (r1 : ByteArray) (r2 : ByteArray) (w : World) (h : script_form.f a0 = some (r1, r2)) :
  Calls Tryz.prog 50 #[.int .i64 a0] w fun e w' => e = .returned (.tuple #[.string r1, .string r2]) ∧ Below w.heap.size w w' := by
 have HB := Aside0.mk (Below.refl w.heap.size w)
 have H : ((script_forms.f).bind fun t106 => (if a0 < 1 then (some ((⟨#[]⟩ : ByteArray), (⟨#[]⟩ : ByteArray))) else (if a0 ≥ (t106.length : Int) then (some ((⟨#[]⟩ : ByteArray), (⟨#[]⟩ : ByteArray))) else (if 0 ≤ a0 then (if a0 < (t106.length : Int) then ((strings_Cut.f (rdOf ByteArray.empty t106 a0) (⟨#[32]⟩ : ByteArray)).bind fun bt110 => (some (bt110.1, bt110.2.1))) else (none)) else (none))))) = some (r1, r2) := h
 clear h
 replace H := Option.bind_eq_some_iff.mp H
 obtain ⟨t106, A20, H⟩ := H
 replace H : (if a0 < 1 then (some ((⟨#[]⟩ : ByteArray), (⟨#[]⟩ : ByteArray))) else (if a0 ≥ (t106.length : Int) then (some ((⟨#[]⟩ : ByteArray), (⟨#[]⟩ : ByteArray))) else (if 0 ≤ a0 then (if a0 < (t106.length : Int) then ((strings_Cut.f (rdOf ByteArray.empty t106 a0) (⟨#[32]⟩ : ByteArray)).bind fun bt110 => (some (bt110.1, bt110.2.1))) else (none)) else (none)))) = some (r1, r2) := H
 have A2 := Aside0.mk A20
 clear A20
 by_cases c3 : a0 < 1
 ·rw [if_pos c3] at H
  have c3b0 : decide (a0 < 1) = true := decide_eq_true c3
  clear c3
  simp only [Option.some.injEq, Prod.mk.injEq] at H
  obtain ⟨rfl, rfl⟩ := H
  go_enter Tryz.func50, Tryz.ntmps50
  go_wp2_with (first | ((with_reducible refine gate_callee (f := 74) rfl ?_); refine goesL_ (some 8) rfl rfl Tryz.func74 (by kernel_rfl) rfl #[] rfl (by (try simp only [List.map_toArray, List.map_cons, List.map_nil]); first | done | rfl | (simp only [List.length_drop, List.length_take]; rfl)) ?_; (with_reducible refine (script_forms.calls  t106 _ A2.out).mono ?_); rintro e w4 ⟨v107, rfl, ho0, hb⟩; refine ⟨_, rfl, ?_⟩; have n0_ := Aside0.mk (Kd.R_lower ho0 (below_size (by repeat (first | (with_reducible first | exact HB.out | apply below_alloc | apply pw_below_drewN | apply below_drew1) | exact HB.out)))); have n1_ := Aside0.mk (below_step (by repeat (first | (with_reducible first | exact HB.out | apply below_alloc | apply pw_below_drewN | apply below_drew1) | exact HB.out)) hb); clear HB; have HO108 := n0_; have HB := n1_; clear n0_ n1_; (try clear hb); (try clear hb2); (try clear hk); (try clear hi); (try clear ho0)))
  go_ret2
  exact ⟨by first | rfl | (simp [errW_none, errW_some] <;> rfl) | (simp [*, errW_none, errW_some] <;> rfl), by repeat (first | (with_reducible first | exact HB.out | apply below_alloc | apply pw_below_drewN | apply below_drew1) | exact HB.out)⟩
 ·rw [if_neg c3] at H
  have c3b0 : decide (a0 < 1) = false := decide_eq_false c3
  clear c3
  by_cases c5 : a0 ≥ (t106.length : Int)
  ·rw [if_pos c5] at H
   have c5b0 : decide ((t106.length : Int) ≤ a0) = true := decide_eq_true c5
   clear c5
   simp only [Option.some.injEq, Prod.mk.injEq] at H
   obtain ⟨rfl, rfl⟩ := H
   go_enter Tryz.func50, Tryz.ntmps50
   go_wp2_with (first | ((with_reducible refine gate_callee (f := 74) rfl ?_); refine goesL_ (some 8) rfl rfl Tryz.func74 (by kernel_rfl) rfl #[] rfl (by (try simp only [List.map_toArray, List.map_cons, List.map_nil]); first | done | rfl | (simp only [List.length_drop, List.length_take]; rfl)) ?_; (with_reducible refine (script_forms.calls  t106 _ A2.out).mono ?_); rintro e w6 ⟨v107, rfl, ho0, hb⟩; refine ⟨_, rfl, ?_⟩; have n0_ := Aside0.mk (Kd.R_lower ho0 (below_size (by repeat (first | (with_reducible first | exact HB.out | apply below_alloc | apply pw_below_drewN | apply below_drew1) | exact HB.out)))); have n1_ := Aside0.mk (below_step (by repeat (first | (with_reducible first | exact HB.out | apply below_alloc | apply pw_below_drewN | apply below_drew1) | exact HB.out)) hb); clear HB; have HO108 := n0_; have HB := n1_; clear n0_ n1_; (try clear hb); (try clear hb2); (try clear hk); (try clear hi); (try clear ho0); obtain ⟨Ao7, co7, eo7⟩ := Kd.R_slice HO108.out; subst eo7))
   go_ret2
   exact ⟨by first | rfl | (simp [errW_none, errW_some] <;> rfl) | (simp [*, errW_none, errW_some] <;> rfl), by repeat (first | (with_reducible first | exact HB.out | apply below_alloc | apply pw_below_drewN | apply below_drew1) | exact HB.out)⟩
  ·rw [if_neg c5] at H
   have c5b0 : decide ((t106.length : Int) ≤ a0) = false := decide_eq_false c5
   clear c5
   by_cases c8 : 0 ≤ a0
   ·rw [if_pos c8] at H
    have c8b0 : decide (0 ≤ a0) = true := decide_eq_true c8
    clear c8
    by_cases c9 : a0 < (t106.length : Int)
    ·rw [if_pos c9] at H
     have c9b0 : decide (a0 < (t106.length : Int)) = true := decide_eq_true c9
     clear c9
     replace H := Option.bind_eq_some_iff.mp H
     obtain ⟨⟨t110, t111, t112⟩, A100, H⟩ := H
     replace H : (some (t110, t111)) = some (r1, r2) := H
     have A10 := Aside0.mk A100
     clear A100
     simp only [Option.some.injEq, Prod.mk.injEq] at H
     obtain ⟨rfl, rfl⟩ := H
     go_enter Tryz.func50, Tryz.ntmps50
     go_wp2_with (first | ((with_reducible refine gate_callee (f := 74) rfl ?_); refine goesL_ (some 8) rfl rfl Tryz.func74 (by kernel_rfl) rfl #[] rfl (by (try simp only [List.map_toArray, List.map_cons, List.map_nil]); first | done | rfl | (simp only [List.length_drop, List.length_take]; rfl)) ?_; (with_reducible refine (script_forms.calls  t106 _ A2.out).mono ?_); rintro e w11 ⟨v107, rfl, ho0, hb⟩; refine ⟨_, rfl, ?_⟩; have n0_ := Aside0.mk (Kd.R_lower ho0 (below_size (by repeat (first | (with_reducible first | exact HB.out | apply below_alloc | apply pw_below_drewN | apply below_drew1) | exact HB.out)))); have n1_ := Aside0.mk (below_step (by repeat (first | (with_reducible first | exact HB.out | apply below_alloc | apply pw_below_drewN | apply below_drew1) | exact HB.out)) hb); clear HB; have HO108 := n0_; have HB := n1_; clear n0_ n1_; (try clear hb); (try clear hb2); (try clear hk); (try clear hi); (try clear ho0); obtain ⟨Ao12, co12, eo12⟩ := Kd.R_slice HO108.out; subst eo12; have p109 : 0 ≤ (a0 : Int) := of_decide_eq_true (by first | (with_reducible assumption) | assumption); have q109 : a0 < (t106.length : Int) := of_decide_eq_true (by first | (with_reducible assumption) | assumption); obtain ⟨ad109, e109, hx109_0⟩ := Kd.at_string (Kd.R_reads' HO108.out).2.2 a0 p109 q109; cases e109; replace p109 := eq_true p109; replace q109 := eq_true q109) | ((with_reducible refine gate_callee (f := 75) rfl ?_); refine goesL_ (some 22) rfl rfl Tryz.func75 (by kernel_rfl) rfl #[.string (rdOf ByteArray.empty t106 a0), .string (⟨#[32]⟩ : ByteArray)] rfl (by (try simp only [List.map_toArray, List.map_cons, List.map_nil]); first | done | rfl | (simp only [List.length_drop, List.length_take]; rfl)) ?_; (with_reducible refine (strings_Cut.calls (rdOf ByteArray.empty t106 a0) (⟨#[32]⟩ : ByteArray) t110 t111 t112 _ A10.out).mono ?_); rintro e w' ⟨rfl, ⟨nd, rfl⟩⟩; refine ⟨_, rfl, ?_⟩))
     go_ret2
     exact ⟨by first | rfl | (simp [errW_none, errW_some] <;> rfl) | (simp [*, errW_none, errW_some] <;> rfl), by repeat (first | (with_reducible first | exact HB.out | apply below_alloc | apply pw_below_drewN | apply below_drew1) | exact HB.out)⟩
    ·rw [if_neg c9] at H
     exact absurd H (by simp)
   ·rw [if_neg c8] at H
    exact absurd H (by simp)

end Go.Proofs.YtndgaeldndgioaaGreatDoor.QAll
end

section
/- script.line, walked by hand: an event's line, or none. -/
set_option linter.unusedVariables false
set_option linter.unusedSimpArgs false
namespace Go.Proofs.YtndgaeldndgioaaGreatDoor.QAll
open Go.RowKit Go.Proofs.YtndgaeldndgioaaGreatDoorW.PrintWords Go.Proofs.YtndgaeldndgioaaGreatDoorW.PrintLast Go.Proofs.YtndgaeldndgioaaGreatDoorW.PrintMore
open Go.Proofs.YtndgaeldndgioaaGreatDoor.Fl

/-- What the walks ask of an event: it is one that read may tell. -/
structure EvOk (e : Ev) : Prop where
  inr : EvIn e
  s : e.s.size ≤ 100000
  d : ∀ z ∈ e.d, 0 ≤ z ∧ z ≤ 255
  l : e.d.length ≤ 100000
  a : I64 e.a
  b : I64 e.b
  n : I64 e.n
  m : I64 e.m
/-- One word of an event, by its letter; and whether there is one. -/
def wordC (e : Ev) (c : Int) : Option (ByteArray × Bool) :=
  if c = 83 then some (⟨#[61]⟩ ++ escS e.s, decide ((e.s.size : Int) ≤ 300))
  else if c = 68 then some (⟨#[35]⟩ ++ hexD e.d, decide ((e.d.length : Int) ≤ 16))
  else if c = 88 then some (itoaB e.x, true)
  else if c = 89 then some (itoaB e.y, true)
  else if c = 65 then some (itoaB e.a, fitsB e.a)
  else if c = 66 then some (itoaB e.b, fitsB e.b)
  else if c = 78 then some (itoaB e.n, fitsB e.n)
  else if c = 77 then some (itoaB e.m, fitsB e.m)
  else none
theorem word_calls (e : Ev) (A : Option Addr) (cp : Nat) (c : Int) (r1 : ByteArray) (r2 : Bool) (w : World) (hE : EnvW w) (ho : EvOk e) (hd : (Kd.int .u8).C w A e.d.length e.d) (h : wordC e c = some (r1, r2)) :
    Calls Tryz.prog 73 #[evV e A cp, .int .i32 c] w fun r w' => r = .returned (.tuple #[.string r1, .bool r2]) ∧ Below w.heap.size w w' := by
  unfold wordC at h
  by_cases h1 : c = 83
  · rw [if_pos h1] at h
    obtain ⟨rfl, rfl⟩ := Prod.mk.inj (Option.some.inj h)
    subst h1
    exact word_S e A cp w hE ho.inr hd ho.s
  rw [if_neg h1] at h
  by_cases h2 : c = 68
  · rw [if_pos h2] at h
    obtain ⟨rfl, rfl⟩ := Prod.mk.inj (Option.some.inj h)
    subst h2
    exact word_D e A cp w hd ho.d ho.l
  rw [if_neg h2] at h
  by_cases h3 : c = 88
  · rw [if_pos h3] at h
    obtain ⟨rfl, rfl⟩ := Prod.mk.inj (Option.some.inj h)
    subst h3
    exact word_X e A cp w hE ho.inr hd
  rw [if_neg h3] at h
  by_cases h4 : c = 89
  · rw [if_pos h4] at h
    obtain ⟨rfl, rfl⟩ := Prod.mk.inj (Option.some.inj h)
    subst h4
    exact word_Y e A cp w hE ho.inr hd
  rw [if_neg h4] at h
  by_cases h5 : c = 65
  · rw [if_pos h5] at h
    obtain ⟨rfl, rfl⟩ := Prod.mk.inj (Option.some.inj h)
    subst h5
    exact word_A e A cp w hE ho.inr hd ho.a
  rw [if_neg h5] at h
  by_cases h6 : c = 66
  · rw [if_pos h6] at h
    obtain ⟨rfl, rfl⟩ := Prod.mk.inj (Option.some.inj h)
    subst h6
    exact word_B e A cp w hE ho.inr hd ho.b
  rw [if_neg h6] at h
  by_cases h7 : c = 78
  · rw [if_pos h7] at h
    obtain ⟨rfl, rfl⟩ := Prod.mk.inj (Option.some.inj h)
    subst h7
    exact word_N e A cp w hE ho.inr hd ho.n
  rw [if_neg h7] at h
  by_cases h8 : c = 77
  · rw [if_pos h8] at h
    obtain ⟨rfl, rfl⟩ := Prod.mk.inj (Option.some.inj h)
    subst h8
    exact word_M e A cp w hE ho.inr hd ho.m
  rw [if_neg h8] at h
  cases h
end Go.Proofs.YtndgaeldndgioaaGreatDoor.QAll
end

section
/- script.line, walked by hand: an event's line, or none. -/
set_option linter.unusedVariables false
set_option linter.unusedSimpArgs false
namespace Go.Proofs.YtndgaeldndgioaaGreatDoor.QAll
open Go.RowKit Go.Proofs.YtndgaeldndgioaaGreatDoorW.PrintWords Go.Proofs.YtndgaeldndgioaaGreatDoorW.PrintLast Go.Proofs.YtndgaeldndgioaaGreatDoorW.PrintMore
open Go.Proofs.YtndgaeldndgioaaGreatDoor.Fl

/-- The words by the letters, behind those that are there; some none: one isn't. -/
def lineL (e : Ev) : List UInt8 → List ByteArray → Option (Option (List ByteArray))
  | [], acc => some (some acc)
  | c :: cs, acc => (wordC e (c.toNat : Int)).bind fun p => if p.2 = true then lineL e cs (acc ++ [p.1]) else some none
def lineR (res : Option (List ByteArray)) : Option (ByteArray × Bool) := match res with
  | none => some (⟨#[]⟩, false)
  | some l => (strings_Join.f l ⟨#[32]⟩).map fun r => (r, true)
/-- Behind j letters: the words, the event's block, the iterator's, and that nothing older has turned. -/
def LZ (w : World) (gi : Nat) (cs : Array Value) (lt : ByteArray) (j : Nat) (W : World) (v : Value) (xs : List ByteArray) : Prop :=
  Kd.R Kd.string 9 W w.heap.size (fun i => i ≠ gi) v xs ∧ W.heap[w.heap.size]? = some (.cells cs 26 (0, 0)) ∧ W.heap[gi]? = some (.stringIter lt j) ∧ Below w.heap.size w W ∧ w.heap.size < gi
theorem lt_of_some {W : World} {i : Nat} {o : Obj} (h : W.heap[i]? = some o) : i < W.heap.size := (Array.getElem?_eq_some_iff.1 h).1
theorem LZ_below {w W W' : World} {gi : Nat} {cs : Array Value} {lt : ByteArray} {j : Nat} {v : Value} {xs : List ByteArray} (h : LZ w gi cs lt j W v xs) (hb : Below W.heap.size W W') : LZ w gi cs lt j W' v xs :=
  ⟨Kd.R_below h.1 hb, (hb.block _ (lt_of_some h.2.1)).trans h.2.1, (hb.block _ (lt_of_some h.2.2.1)).trans h.2.2.1, below_then h.2.2.2.1 h.2.2.2.1.size hb, h.2.2.2.2⟩
theorem LZ_append {w W w1 : World} {gi : Nat} {cs : Array Value} {lt : ByteArray} {j : Nat} {v v1 : Value} {xs ys : List ByteArray} (h : LZ w gi cs lt j W v xs) (hr : Kd.R Kd.string 9 w1 w.heap.size (fun i => i ≠ gi) v1 ys) (hb : Below w.heap.size w w1) (hg : W.grownBy w1 v.ownBlock) : LZ w gi cs lt j w1 v1 ys :=
  ⟨hr, (hg.block _ (lt_of_some h.2.1) (Kd.R_ne h.1 h.2.1 (by decide))).trans h.2.1, (hg.block _ (lt_of_some h.2.2.1) (fun e => h.1.1 gi e.symm rfl)).trans h.2.2.1, hb, h.2.2.2.2⟩
theorem LZ_next {w W : World} {gi : Nat} {cs : Array Value} {lt : ByteArray} {j : Nat} {v : Value} {xs : List ByteArray} (h : LZ w gi cs lt j W v xs) : LZ w gi cs lt (j + 1) (W.iterAt gi lt (j + 1)) v xs := by
  obtain ⟨h1, h2, h3, h4, h5⟩ := h
  exact ⟨Kd.R_step h1 (fun k hk _ => Lib.iterAt_other W gi k lt (j + 1) hk), (Lib.iterAt_other W gi _ lt (j + 1) (by omega)).trans h2, Lib.iterAt_heap W gi lt j (j + 1) h3, Lib.below_iterAt h4 (by omega) lt (j + 1), h5⟩
set_option maxHeartbeats 8000000 in
set_option maxRecDepth 100000 in
theorem line_core (e : Ev) (A : Option Addr) (c : Nat) (nm lt : ByteArray) (res : Option (List ByteArray)) (r1 : ByteArray) (r2 : Bool) (w : World) (hE : EnvW w) (ho : EvOk e) (hd : (Kd.int .u8).C w A e.d.length e.d)
    (hf : script_form.f e.k = some (nm, lt)) (hn : (nm.toList == []) = false) (hls : lt.size ≤ 1000) (hasc : ∀ (j : Nat) (h : j < lt.size), (lt[j]'h).toNat < 128) (hL : lineL e lt.data.toList [nm] = some res) (hR : lineR res = some (r1, r2)) :
    Calls Tryz.prog 48 #[evV e A c] w fun r w' => r = .returned (.tuple #[.string r1, .bool r2]) ∧ Below w.heap.size w w' := by
  have HO := Aside0.mk ho
  have HD := Aside0.mk hd
  have HF := Aside0.mk hf
  have HL := Aside0.mk hL
  have HR := Aside0.mk hR
  have HS := Aside0.mk hasc
  have HEV := Aside0.mk (rfl : evV e A c = evV e A c)
  clear ho hd hf hL hR hasc
  generalize hev : evV e A c = ev
  have HV := Aside0.mk hev
  clear HEV
  obtain ⟨k, a, b, n, m, s, x, y, d⟩ := e
  unfold evV at hev
  subst hev
  go_enter Tryz.func48, Tryz.ntmps48
  go_wp2_with (fail)
  (with_reducible refine (script_form.calls k nm lt _ HF.out).mono ?_)
  rintro e w1 ⟨rfl, hb1⟩
  have HB := Aside0.mk (below_step ((Below.refl w.heap.size w).alloc (Nat.le_refl _) (.cells #[.int .i64 k, .int .i64 a, .int .i64 b, .int .i64 n, .int .i64 m, .string s, .complex .f64 (fl x) (fl y), .slice A d.length c] 26 (0, 0))) hb1)
  have HX := Aside0.mk ((hb1.block w.heap.size (by simp)).trans (heap_alloc_new w (.cells #[.int .i64 k, .int .i64 a, .int .i64 b, .int .i64 n, .int .i64 m, .string s, .complex .f64 (fl x) (fl y), .slice A d.length c] 26 (0, 0))))
  have HZ := Aside0.mk (show w.heap.size < w1.heap.size from Nat.lt_of_lt_of_le (by simp) hb1.size)
  clear hb1
  go_wp2_with (fail)
  have HZ0 := Aside0.mk (show LZ w (w1.heap.size + 1) #[.int .i64 k, .int .i64 a, .int .i64 b, .int .i64 n, .int .i64 m, .string s, .complex .f64 (fl x) (fl y), .slice A d.length c] lt 0 ((w1.alloc (.cells #[.string nm] 9 (0, 0))).iter lt 0) (.slice (some ⟨w1.heap.size, 0, none⟩) 1 1) [nm] from ⟨by
      have ho := World.ownsRow_lit (base := w.heap.size) (e := 9) (size := 1) w1 #[.string nm] 1 (Nat.le_of_lt HZ.out) (by unfold maxLen; omega) rfl
      refine Kd.R_below (Kd.R_of_own (xs := [nm]) ho (fun k hk => ?_)) ((Below.refl _ _).alloc (Nat.le_refl _) _)
      have : k = w1.heap.size := by simpa [Value.ownBlock] using hk.symm
      omega, (Below.heap_alloc _ _ _ (by have := HZ.out; simp; omega)).trans ((Below.heap_alloc _ _ _ HZ.out).trans HX.out), by
      have := World.iter_heap (w1.alloc (.cells #[.string nm] 9 (0, 0))) lt 0
      rw [World.size_alloc] at this
      exact this, ((HB.out.alloc (Nat.le_of_lt HZ.out) _).alloc (by have := HZ.out; simp; omega) _), by have := HZ.out; omega⟩)
  have hsz1 := HZ.out
  generalize (w1.alloc (.cells #[.string nm] 9 (0, 0))).iter lt 0 = w2 at HZ0 ⊢
  generalize w1.heap.size + 1 = gi at HZ0 ⊢
  clear HB HX HZ
  go_loopw [6] (fun v6 wr => ∃ (j : Nat) (acc : List ByteArray), j ≤ lt.size ∧ acc.length = j + 1 ∧ Aside0 (lineL (⟨k, a, b, n, m, s, x, y, d⟩ : Ev) (lt.data.toList.drop j) acc = some res) ∧ Aside0 (LZ w gi #[.int .i64 k, .int .i64 a, .int .i64 b, .int .i64 n, .int .i64 m, .string s, .complex .f64 (fl x) (fl y), .slice A d.length c] lt j wr v6 acc)) (fun _ wr => lt.size - wr.iterPos gi)
  case atStart => exact ⟨0, [nm], Nat.zero_le _, rfl, HL, HZ0⟩
  case round =>
    obtain ⟨j, acc, hj, hacc, HLj, HZj⟩ := hrel
    clear HZ0
    by_cases hlt : j < lt.size
    · have hnx := fun (ty : TypeId) => Lib.run_next_ascii_at (P := Tryz.prog) wr gi lt j ty HZj.out.2.2.1 hlt (HS.out j hlt)
      have HZn := Aside0.mk (LZ_next HZj.out)
      obtain ⟨k0, k1, k2, k3, k4, k5, k6, k7⟩ := cells8 HZn.out.2.1
      have hdr : lt.data.toList.drop j = lt[j]'hlt :: lt.data.toList.drop (j + 1) := by
        rw [List.drop_eq_getElem_cons (by simpa using hlt)]
        rfl
      have hl := HLj.out
      rw [hdr, lineL] at hl
      obtain ⟨p, hp, hrest⟩ := Option.bind_eq_some_iff.1 hl
      have HRest := Aside0.mk hrest
      clear hl hrest hdr HLj
      have hw := word_calls (⟨k, a, b, n, m, s, x, y, d⟩ : Ev) A c ((lt[j]'hlt).toNat : Int) p.1 p.2 (wr.iterAt gi lt (j + 1)) (hE.below HZn.out.2.2.2.1) HO.out (Kd.C_below HD.out HZn.out.2.2.2.1) hp
      rw [HV.out] at hw
      have HW := Aside0.mk hw
      clear hw hp
      have hip : wr.iterPos gi = j := iterPos_of HZj.out.2.2.1
      clear HZj
      go_wp2_with (first | rw [hnx] | (go_at_call 73; fail))
      refine HW.out.mono ?_
      rintro e w4 ⟨rfl, hb4⟩
      have HZ4 := Aside0.mk (LZ_below HZn.out hb4)
      clear HZn hb4 HW hnx k0 k1 k2 k3 k4 k5 k6 k7
      cases hp2 : p.2 with
      | true =>
        have hre := HRest.out
        rw [hp2, if_pos rfl] at hre
        have HRe := Aside0.mk hre
        clear hre HRest
        go_wp2_with (at_builtin; refine Kd.R_append Kd.string (w0 := w) w.heap.size rfl (.tmp 34) (.tmp 36) 52 9 (.string ⟨#[]⟩) 16 rfl Tryz.underlying52 info9 rfl (by decide) (by omega) u6 acc p.1 [.string p.1] (fun i => i ≠ gi) (fun _ => False) rfl rfl rfl (fun _ hk => hk.elim) (fun i hi => by have := lt_of_some HZ4.out.2.2.1; omega) HZ4.out.1 HZ4.out.2.2.2.1 HZ4.out.2.2.2.1.size (by rw [hacc]; omega) ?_; intro v1 w5 ho hb hg hat; have HZ5 := Aside0.mk (LZ_append HZ4.out ho hb hg); clear HZ4 ho hb hg hat)
        go_roundw
        case rel => exact ⟨j + 1, acc ++ [p.1], by omega, by simp [hacc], HRe, HZ5⟩
        case measure =>
          have := iterPos_of HZ5.out.2.2.1
          omega
      | false =>
        have hre := HRest.out
        rw [hp2, if_neg (by decide)] at hre
        obtain rfl := Option.some.inj hre
        have hr := HR.out
        simp only [lineR, Option.some.injEq, Prod.mk.injEq] at hr
        obtain ⟨rfl, rfl⟩ := hr
        clear hre HRest
        go_wp2_with (fail)
        go_ret2
        exact ⟨rfl, HZ4.out.2.2.2.1⟩
    · obtain rfl : j = lt.size := by omega
      have hnx := fun (ty : TypeId) => Lib.run_next_end_at (P := Tryz.prog) wr gi lt lt.size ty HZj.out.2.2.1 hlt
      have hre := HLj.out
      rw [List.drop_of_length_le (by simp)] at hre
      simp only [lineL, Option.some.injEq] at hre
      subst hre
      have hr := HR.out
      simp only [lineR, Option.map_eq_some_iff, Prod.mk.injEq] at hr
      obtain ⟨rj, hrj, rfl, rfl⟩ := hr
      have HJ := Aside0.mk hrj
      clear hrj
      clear hacc
      obtain ⟨A6, c6, rfl, hc6, hC6⟩ := Kd.R_reads HZj.out.1
      have HC6 := Aside0.mk hC6
      clear hC6
      go_wp2_with (first | rw [hnx] | (go_at_call 30; fail))
      (with_reducible refine (strings_Join.calls A6 c6 acc ⟨#[32]⟩ rj _ HC6.out hc6 HJ.out).mono ?_)
      rintro e w4 ⟨rfl, hb4⟩
      have HZ4 := Aside0.mk (LZ_below HZj.out hb4)
      clear HZj hb4
      go_wp2_with (fail)
      go_ret2
      exact ⟨rfl, HZ4.out.2.2.2.1⟩
end Go.Proofs.YtndgaeldndgioaaGreatDoor.QAll
end

section
/- Walks, written by a program of this session (wip/pp): a Go function comes to what the Lean function beside it tells. -/
namespace Go.Proofs.YtndgaeldndgioaaGreatDoor.QAll
open Go.RowKit Go.Proofs.YtndgaeldndgioaaGreatDoorW.PrintWords Go.Proofs.YtndgaeldndgioaaGreatDoorW.PrintLast Go.Proofs.YtndgaeldndgioaaGreatDoorW.PrintMore
attribute [local go_sem] max2_int min2_int max_two min_two max_three min_three max_four min_four
set_option linter.unusedVariables false
set_option linter.unusedSimpArgs false

def squelchref30_Names.f  : Option (List ByteArray) := some (([(⟨#[]⟩ : ByteArray), (⟨#[75, 69, 89, 83]⟩ : ByteArray), (⟨#[75, 73, 83, 83]⟩ : ByteArray), (⟨#[82, 69, 65, 68]⟩ : ByteArray), (⟨#[84, 73, 67, 75]⟩ : ByteArray), (⟨#[76, 79, 83, 69]⟩ : ByteArray), (⟨#[83, 80, 79, 73, 76]⟩ : ByteArray), (⟨#[66, 76, 79, 67, 75]⟩ : ByteArray), (⟨#[79, 80, 69, 78]⟩ : ByteArray), (⟨#[83, 84, 65, 78, 68]⟩ : ByteArray), (⟨#[77, 79, 86, 69]⟩ : ByteArray), (⟨#[84, 85, 82, 78]⟩ : ByteArray)] : List ByteArray))
end Go.Proofs.YtndgaeldndgioaaGreatDoor.QAll
end

section
/- Walks, written by a program of this session (wip/pp): a Go function comes to what the Lean function beside it tells. -/
namespace Go.Proofs.YtndgaeldndgioaaGreatDoor.QAll
open Go.RowKit Go.Proofs.YtndgaeldndgioaaGreatDoorW.PrintWords Go.Proofs.YtndgaeldndgioaaGreatDoorW.PrintLast Go.Proofs.YtndgaeldndgioaaGreatDoorW.PrintMore
attribute [local go_sem] max2_int min2_int max_two min_two max_three min_three max_four min_four
set_option linter.unusedVariables false
set_option linter.unusedSimpArgs false

def squelchref26_digits.l0 : Nat → Int → ByteArray → Option (ByteArray)
 | 0, _, _ => none
 | k + 1, x0, x3 => if x3.toList = ([] : List UInt8) then ((some (([(IntKind.u64.wrap (48 + (Int.tmod x0 10))) % 256] : List Int) : List Int)).bind fun y194 => (if (strOfNums y194).size + x3.size ≤ 9223372036854775807 then (squelchref26_digits.l0 k (IntKind.u64.wrap (Int.tdiv x0 10)) ((strOfNums y194) ++ x3)) else (none))) else (if x0 > 0 then ((some (([(IntKind.u64.wrap (48 + (Int.tmod x0 10))) % 256] : List Int) : List Int)).bind fun y197 => (if (strOfNums y197).size + x3.size ≤ 9223372036854775807 then (squelchref26_digits.l0 k (IntKind.u64.wrap (Int.tdiv x0 10)) ((strOfNums y197) ++ x3)) else (none))) else (some x3))
def squelchref26_digits.f (k : Nat) (a0 : Int) : Option (ByteArray) := squelchref26_digits.l0 k a0 (⟨#[]⟩ : ByteArray)
set_option maxHeartbeats 8000000 in
set_option maxRecDepth 100000 in
theorem squelchref26_digits.calls (k : Nat) (a0 : Int) (r : ByteArray) (w : World) (h : squelchref26_digits.f k a0 = some r) :
  Calls Tryz.prog 94 #[.int .u64 a0] w fun e w' => e = .returned (.string r) ∧ Below w.heap.size w w' := by
 have HB := Aside0.mk (Below.refl w.heap.size w)
 have H : (squelchref26_digits.l0 k a0 (⟨#[]⟩ : ByteArray)) = some r := h
 clear h
 have H' := Aside0.mk H
 clear H
 go_enter Tryz.func94, Tryz.ntmps94
 go_wp2
 go_loopg [0, 3] k (fun kq v0 v3 w' => ∃ (x0_1 : Int) (x3_1 : ByteArray), v0 = .int .u64 x0_1 ∧ v3 = .string x3_1 ∧ Aside0 (squelchref26_digits.l0 kq x0_1 x3_1 = some r) ∧ Aside0 (kq ≤ k) ∧ Aside0 (Below w.heap.size w w'))
 case atStart => exact ⟨(a0), ((⟨#[]⟩ : ByteArray)), (by first | rfl | (simp; done) | (simp [*]; done) | (simp; exact (fun l : List UInt8 => (by cases l <;> rfl : l.isEmpty = !(l != []))) _)), (by first | rfl | (simp; done) | (simp [*]; done) | (simp; exact (fun l : List UInt8 => (by cases l <;> rfl : l.isEmpty = !(l != []))) _)), H', ⟨Nat.le_refl _⟩, ⟨by repeat (first | (with_reducible first | exact HB.out | apply below_alloc | apply pw_below_drewN | apply below_drew1) | exact HB.out)⟩⟩
 case round =>
  clear H'
  obtain ⟨x0_1, x3_1, rfl, rfl, HA, HK1, HB⟩ := hrel
  cases gk with
  | zero => exact absurd HA.out (by simp [squelchref26_digits.l0])
  | succ k1 =>
   have H := HA.out
   clear HA
   simp only [squelchref26_digits.l0] at H
   by_cases c2 : x3_1.toList = ([] : List UInt8)
   ·rw [if_pos c2] at H
    have c2b0 : (x3_1.toList == ([] : List UInt8)) = true := beq_iff_eq.mpr c2
    (try (have c2b0e : (x3_1.toList.isEmpty) = true := by simpa using c2b0))
    have c2b1 : (x3_1.toList != ([] : List UInt8)) = false := bne_eq_false_iff_eq.mpr c2
    clear c2
    obtain ⟨y194, hy194⟩ : ∃ y_ : List Int, y_ = (([(IntKind.u64.wrap (48 + (Int.tmod x0_1 10))) % 256] : List Int)) := ⟨_, rfl⟩
    replace H : (if (strOfNums y194).size + x3_1.size ≤ 9223372036854775807 then (squelchref26_digits.l0 k1 (IntKind.u64.wrap (Int.tdiv x0_1 10)) ((strOfNums y194) ++ x3_1)) else (none)) = some r := by first | (rw [hy194]; with_reducible exact H) | (have H2_ := (Option.bind_some _ _).symm.trans H; rw [hy194]; with_reducible exact H2_) | (have H2_ := (Option.bind_some _ _).symm.trans H; with_reducible exact H2_) | with_reducible exact H | (rw [hy194]; exact H) | exact H
    have Ny194 := Aside0.mk hy194
    clear hy194
    by_cases c3 : (strOfNums y194).size + x3_1.size ≤ 9223372036854775807
    ·rw [if_pos c3] at H
     have c3b0 := eq_true c3
     have c3b1 : decide ((strOfNums y194).size + x3_1.size ≤ 9223372036854775807) = true := decide_eq_true c3
     try have c3b2 : (9223372036854775807 < (strOfNums y194).size + x3_1.size) = False := eq_false (Nat.not_lt.2 c3)
     have H' := Aside0.mk H
     clear H
     go_wp2_with (first | ((with_reducible refine gate_dst (N := 14) rfl ?_); refine Kd.R_lit (Kd.int .u8) _ 5 ?hg (N := 14) ?hd (xs := ([(IntKind.u64.wrap (48 + (Int.tmod x0_1 10))) % 256] : List Int)) (inner := [.int .u8 ((IntKind.u64.wrap (48 + (Int.tmod x0_1 10))) % 256)]) (ok := fun _ => True) (okp := fun _ => True) ?hr ?hp (fun _ hk => hk) trivial (Below.refl _ _) (Nat.le_refl _) (by simp) ?_; (case hd => rfl); (case hg => rfl); (case hr => first | (go_simp; done) | (go_simp; rfl)); (case hp => exact (Reps.one (show Kd.M (Kd.int .u8) _ _ _ ((IntKind.u64.wrap (48 + (Int.tmod x0_1 10))) % 256) [.int .u8 ((IntKind.u64.wrap (48 + (Int.tmod x0_1 10))) % 256)] from rfl) (Reps.none _ _))); intro v195 w4 ho5 hb hg_ hnew_; clear hg_ hnew_; (first | rw [← Ny194.out] at ho5 | (simp only [Int.reduceToNat] at ho5; rw [← Ny194.out] at ho5)); have n0_ := Aside0.mk (Kd.R_lower ho5 (below_size (by repeat (first | (with_reducible first | exact HB.out | apply below_alloc | apply pw_below_drewN | apply below_drew1) | exact HB.out)))); have n1_ := Aside0.mk (below_step (by repeat (first | (with_reducible first | exact HB.out | apply below_alloc | apply pw_below_drewN | apply below_drew1) | exact HB.out)) hb); clear HB; have HO196 := n0_; have HB := n1_; clear n0_ n1_; clear hb ho5; have hcv6 := own_string (P := Tryz.prog) Tryz.underlying24 Tryz.underlying5 Tryz.underlying9 (Kd.own_of_R HO196.out)))
     go_roundg k1
     case measure => have := HK1.out; omega
     case rel => exact ⟨(IntKind.u64.wrap (Int.tdiv x0_1 10)), ((strOfNums y194) ++ x3_1), (by first | rfl | (simp; done) | (simp [*]; done) | (simp; exact (fun l : List UInt8 => (by cases l <;> rfl : l.isEmpty = !(l != []))) _)), (by first | rfl | (simp; done) | (simp [*]; done) | (simp; exact (fun l : List UInt8 => (by cases l <;> rfl : l.isEmpty = !(l != []))) _)), H', ⟨by have := HK1.out; omega⟩, ⟨by repeat (first | (with_reducible first | exact HB.out | apply below_alloc | apply pw_below_drewN | apply below_drew1) | exact HB.out)⟩⟩
    ·rw [if_neg c3] at H
     exact absurd H (by simp)
   ·rw [if_neg c2] at H
    have c2b0 : (x3_1.toList == ([] : List UInt8)) = false := beq_eq_false_iff_ne.mpr c2
    (try (have c2b0e : (x3_1.toList.isEmpty) = false := by simpa using c2b0))
    have c2b1 : (x3_1.toList != ([] : List UInt8)) = true := bne_iff_ne.mpr c2
    by_cases c7 : x0_1 > 0
    ·rw [if_pos c7] at H
     have c7b0 : decide (0 < x0_1) = true := decide_eq_true c7
     clear c7
     obtain ⟨y197, hy197⟩ : ∃ y_ : List Int, y_ = (([(IntKind.u64.wrap (48 + (Int.tmod x0_1 10))) % 256] : List Int)) := ⟨_, rfl⟩
     replace H : (if (strOfNums y197).size + x3_1.size ≤ 9223372036854775807 then (squelchref26_digits.l0 k1 (IntKind.u64.wrap (Int.tdiv x0_1 10)) ((strOfNums y197) ++ x3_1)) else (none)) = some r := by first | (rw [hy197]; with_reducible exact H) | (have H2_ := (Option.bind_some _ _).symm.trans H; rw [hy197]; with_reducible exact H2_) | (have H2_ := (Option.bind_some _ _).symm.trans H; with_reducible exact H2_) | with_reducible exact H | (rw [hy197]; exact H) | exact H
     have Ny197 := Aside0.mk hy197
     clear hy197
     by_cases c8 : (strOfNums y197).size + x3_1.size ≤ 9223372036854775807
     ·rw [if_pos c8] at H
      have c8b0 := eq_true c8
      have c8b1 : decide ((strOfNums y197).size + x3_1.size ≤ 9223372036854775807) = true := decide_eq_true c8
      try have c8b2 : (9223372036854775807 < (strOfNums y197).size + x3_1.size) = False := eq_false (Nat.not_lt.2 c8)
      have H' := Aside0.mk H
      clear H
      go_wp2_with (first | ((with_reducible refine gate_dst (N := 14) rfl ?_); refine Kd.R_lit (Kd.int .u8) _ 5 ?hg (N := 14) ?hd (xs := ([(IntKind.u64.wrap (48 + (Int.tmod x0_1 10))) % 256] : List Int)) (inner := [.int .u8 ((IntKind.u64.wrap (48 + (Int.tmod x0_1 10))) % 256)]) (ok := fun _ => True) (okp := fun _ => True) ?hr ?hp (fun _ hk => hk) trivial (Below.refl _ _) (Nat.le_refl _) (by simp) ?_; (case hd => rfl); (case hg => rfl); (case hr => first | (go_simp; done) | (go_simp; rfl)); (case hp => exact (Reps.one (show Kd.M (Kd.int .u8) _ _ _ ((IntKind.u64.wrap (48 + (Int.tmod x0_1 10))) % 256) [.int .u8 ((IntKind.u64.wrap (48 + (Int.tmod x0_1 10))) % 256)] from rfl) (Reps.none _ _))); intro v198 w9 ho10 hb hg_ hnew_; clear hg_ hnew_; (first | rw [← Ny197.out] at ho10 | (simp only [Int.reduceToNat] at ho10; rw [← Ny197.out] at ho10)); have n0_ := Aside0.mk (Kd.R_lower ho10 (below_size (by repeat (first | (with_reducible first | exact HB.out | apply below_alloc | apply pw_below_drewN | apply below_drew1) | exact HB.out)))); have n1_ := Aside0.mk (below_step (by repeat (first | (with_reducible first | exact HB.out | apply below_alloc | apply pw_below_drewN | apply below_drew1) | exact HB.out)) hb); clear HB; have HO199 := n0_; have HB := n1_; clear n0_ n1_; clear hb ho10; have hcv11 := own_string (P := Tryz.prog) Tryz.underlying24 Tryz.underlying5 Tryz.underlying9 (Kd.own_of_R HO199.out)))
      go_roundg k1
      case measure => have := HK1.out; omega
      case rel => exact ⟨(IntKind.u64.wrap (Int.tdiv x0_1 10)), ((strOfNums y197) ++ x3_1), (by first | rfl | (simp; done) | (simp [*]; done) | (simp; exact (fun l : List UInt8 => (by cases l <;> rfl : l.isEmpty = !(l != []))) _)), (by first | rfl | (simp; done) | (simp [*]; done) | (simp; exact (fun l : List UInt8 => (by cases l <;> rfl : l.isEmpty = !(l != []))) _)), H', ⟨by have := HK1.out; omega⟩, ⟨by repeat (first | (with_reducible first | exact HB.out | apply below_alloc | apply pw_below_drewN | apply below_drew1) | exact HB.out)⟩⟩
     ·rw [if_neg c8] at H
      exact absurd H (by simp)
    ·rw [if_neg c7] at H
     have c7b0 : decide (0 < x0_1) = false := decide_eq_false c7
     clear c7
     obtain rfl := Option.some.inj H
     go_wp2
     go_ret
     exact ⟨by first | rfl | (simp [errW_none, errW_some] <;> rfl) | (simp [*, errW_none, errW_some] <;> rfl), by repeat (first | (with_reducible first | exact HB.out | apply below_alloc | apply pw_below_drewN | apply below_drew1) | exact HB.out)⟩

end Go.Proofs.YtndgaeldndgioaaGreatDoor.QAll
end

section
/- Walks, written by a program of this session (wip/pp): a Go function comes to what the Lean function beside it tells. -/
namespace Go.Proofs.YtndgaeldndgioaaGreatDoor.QAll
open Go.RowKit Go.Proofs.YtndgaeldndgioaaGreatDoorW.PrintWords Go.Proofs.YtndgaeldndgioaaGreatDoorW.PrintLast Go.Proofs.YtndgaeldndgioaaGreatDoorW.PrintMore
attribute [local go_sem] max2_int min2_int max_two min_two max_three min_three max_four min_four
set_option linter.unusedVariables false
set_option linter.unusedSimpArgs false

def squelchref26_Digits.f (k : Nat) (a0 : Int) : Option (ByteArray) := if a0 < 0 then ((squelchref26_digits.f k (IntKind.u64.wrap (-(IntKind.u64.wrap (a0))))).bind fun t200 => (if 1 + t200.size ≤ 9223372036854775807 then (some ((⟨#[45]⟩ : ByteArray) ++ t200)) else (none))) else ((squelchref26_digits.f k (IntKind.u64.wrap (a0))).bind fun t201 => (some t201))
set_option maxHeartbeats 8000000 in
set_option maxRecDepth 100000 in
theorem squelchref26_Digits.calls (k : Nat) (a0 : Int) (r : ByteArray) (w : World) (h : squelchref26_Digits.f k a0 = some r) :
  Calls Tryz.prog 70 #[.int .i64 a0] w fun e w' => e = .returned (.string r) ∧ Below w.heap.size w w' := by
 have HB := Aside0.mk (Below.refl w.heap.size w)
 have H : (if a0 < 0 then ((squelchref26_digits.f k (IntKind.u64.wrap (-(IntKind.u64.wrap (a0))))).bind fun t200 => (if 1 + t200.size ≤ 9223372036854775807 then (some ((⟨#[45]⟩ : ByteArray) ++ t200)) else (none))) else ((squelchref26_digits.f k (IntKind.u64.wrap (a0))).bind fun t201 => (some t201))) = some r := h
 clear h
 by_cases c2 : a0 < 0
 ·rw [if_pos c2] at H
  have c2b0 : decide (a0 < 0) = true := decide_eq_true c2
  clear c2
  replace H := Option.bind_eq_some_iff.mp H
  obtain ⟨t200, A30, H⟩ := H
  replace H : (if 1 + t200.size ≤ 9223372036854775807 then (some ((⟨#[45]⟩ : ByteArray) ++ t200)) else (none)) = some r := H
  have A3 := Aside0.mk A30
  clear A30
  by_cases c4 : 1 + t200.size ≤ 9223372036854775807
  ·rw [if_pos c4] at H
   have c4b0 := eq_true c4
   have c4b1 : decide (1 + t200.size ≤ 9223372036854775807) = true := decide_eq_true c4
   try have c4b2 : (9223372036854775807 < 1 + t200.size) = False := eq_false (Nat.not_lt.2 c4)
   obtain rfl := Option.some.inj H
   go_enter Tryz.func70, Tryz.ntmps70
   go_wp2_with (first | ((with_reducible refine gate_callee (f := 94) rfl ?_); refine goesL_ (some 10) rfl rfl Tryz.func94 (by kernel_rfl) rfl #[.int .u64 (IntKind.u64.wrap (-(IntKind.u64.wrap (a0))))] rfl (by (try simp only [List.map_toArray, List.map_cons, List.map_nil]); first | done | rfl | (simp only [List.length_drop, List.length_take]; rfl)) ?_; (with_reducible refine (squelchref26_digits.calls k (IntKind.u64.wrap (-(IntKind.u64.wrap (a0)))) t200 _ A3.out).mono ?_); rintro e w5 ⟨rfl, hb⟩; refine ⟨_, rfl, ?_⟩; have n0_ := Aside0.mk (below_step (by repeat (first | (with_reducible first | exact HB.out | apply below_alloc | apply pw_below_drewN | apply below_drew1) | exact HB.out)) hb); clear HB; have HB := n0_; clear n0_; (try clear hb); (try clear hb2); (try clear hk); (try clear hi)))
   go_ret
   exact ⟨by first | rfl | (simp [errW_none, errW_some] <;> rfl) | (simp [*, errW_none, errW_some] <;> rfl), by repeat (first | (with_reducible first | exact HB.out | apply below_alloc | apply pw_below_drewN | apply below_drew1) | exact HB.out)⟩
  ·rw [if_neg c4] at H
   exact absurd H (by simp)
 ·rw [if_neg c2] at H
  have c2b0 : decide (a0 < 0) = false := decide_eq_false c2
  clear c2
  replace H := Option.bind_eq_some_iff.mp H
  obtain ⟨t201, A60, H⟩ := H
  replace H : (some t201) = some r := H
  have A6 := Aside0.mk A60
  clear A60
  obtain rfl := Option.some.inj H
  go_enter Tryz.func70, Tryz.ntmps70
  go_wp2_with (first | ((with_reducible refine gate_callee (f := 94) rfl ?_); refine goesL_ (some 14) rfl rfl Tryz.func94 (by kernel_rfl) rfl #[.int .u64 (IntKind.u64.wrap (a0))] rfl (by (try simp only [List.map_toArray, List.map_cons, List.map_nil]); first | done | rfl | (simp only [List.length_drop, List.length_take]; rfl)) ?_; (with_reducible refine (squelchref26_digits.calls k (IntKind.u64.wrap (a0)) t201 _ A6.out).mono ?_); rintro e w7 ⟨rfl, hb⟩; refine ⟨_, rfl, ?_⟩; have n0_ := Aside0.mk (below_step (by repeat (first | (with_reducible first | exact HB.out | apply below_alloc | apply pw_below_drewN | apply below_drew1) | exact HB.out)) hb); clear HB; have HB := n0_; clear n0_; (try clear hb); (try clear hb2); (try clear hk); (try clear hi)))
  go_ret
  exact ⟨by first | rfl | (simp [errW_none, errW_some] <;> rfl) | (simp [*, errW_none, errW_some] <;> rfl), by repeat (first | (with_reducible first | exact HB.out | apply below_alloc | apply pw_below_drewN | apply below_drew1) | exact HB.out)⟩

end Go.Proofs.YtndgaeldndgioaaGreatDoor.QAll
end

section
/- Walks, written by a program of this session (wip/pp): a Go function comes to what the Lean function beside it tells. -/
namespace Go.Proofs.YtndgaeldndgioaaGreatDoor.QAll
open Go.RowKit Go.Proofs.YtndgaeldndgioaaGreatDoorW.PrintWords Go.Proofs.YtndgaeldndgioaaGreatDoorW.PrintLast Go.Proofs.YtndgaeldndgioaaGreatDoorW.PrintMore
attribute [local go_sem] max2_int min2_int max_two min_two max_three min_three max_four min_four
set_option linter.unusedVariables false
set_option linter.unusedSimpArgs false

def squelchref30_num.f (k : Nat) (a0 : Int) : Option (ByteArray) := (squelchref26_Digits.f k a0).bind fun t202 => (if 1 + t202.size ≤ 9223372036854775807 then (some ((⟨#[32]⟩ : ByteArray) ++ t202)) else (none))
set_option maxHeartbeats 8000000 in
set_option maxRecDepth 100000 in
theorem squelchref30_num.calls (k : Nat) (a0 : Int) (r : ByteArray) (w : World) (h : squelchref30_num.f k a0 = some r) :
  Calls Tryz.prog 44 #[.int .i64 a0] w fun e w' => e = .returned (.string r) ∧ Below w.heap.size w w' := by
 have HB := Aside0.mk (Below.refl w.heap.size w)
 have H : ((squelchref26_Digits.f k a0).bind fun t202 => (if 1 + t202.size ≤ 9223372036854775807 then (some ((⟨#[32]⟩ : ByteArray) ++ t202)) else (none))) = some r := h
 clear h
 replace H := Option.bind_eq_some_iff.mp H
 obtain ⟨t202, A20, H⟩ := H
 replace H : (if 1 + t202.size ≤ 9223372036854775807 then (some ((⟨#[32]⟩ : ByteArray) ++ t202)) else (none)) = some r := H
 have A2 := Aside0.mk A20
 clear A20
 by_cases c3 : 1 + t202.size ≤ 9223372036854775807
 ·rw [if_pos c3] at H
  have c3b0 := eq_true c3
  have c3b1 : decide (1 + t202.size ≤ 9223372036854775807) = true := decide_eq_true c3
  try have c3b2 : (9223372036854775807 < 1 + t202.size) = False := eq_false (Nat.not_lt.2 c3)
  obtain rfl := Option.some.inj H
  go_enter Tryz.func44, Tryz.ntmps44
  go_wp2_with (first | ((with_reducible refine gate_callee (f := 70) rfl ?_); refine goesL_ (some 4) rfl rfl Tryz.func70 (by kernel_rfl) rfl #[.int .i64 a0] rfl (by (try simp only [List.map_toArray, List.map_cons, List.map_nil]); first | done | rfl | (simp only [List.length_drop, List.length_take]; rfl)) ?_; (with_reducible refine (squelchref26_Digits.calls k a0 t202 _ A2.out).mono ?_); rintro e w4 ⟨rfl, hb⟩; refine ⟨_, rfl, ?_⟩; have n0_ := Aside0.mk (below_step (by repeat (first | (with_reducible first | exact HB.out | apply below_alloc | apply pw_below_drewN | apply below_drew1) | exact HB.out)) hb); clear HB; have HB := n0_; clear n0_; (try clear hb); (try clear hb2); (try clear hk); (try clear hi)))
  go_ret
  exact ⟨by first | rfl | (simp [errW_none, errW_some] <;> rfl) | (simp [*, errW_none, errW_some] <;> rfl), by repeat (first | (with_reducible first | exact HB.out | apply below_alloc | apply pw_below_drewN | apply below_drew1) | exact HB.out)⟩
 ·rw [if_neg c3] at H
  exact absurd H (by simp)

end Go.Proofs.YtndgaeldndgioaaGreatDoor.QAll
end

section
/- Walks, written by a program of this session (wip/pp): a Go function comes to what the Lean function beside it tells. -/
namespace Go.Proofs.YtndgaeldndgioaaGreatDoor.QAll
open Go.RowKit Go.Proofs.YtndgaeldndgioaaGreatDoorW.PrintWords Go.Proofs.YtndgaeldndgioaaGreatDoorW.PrintLast Go.Proofs.YtndgaeldndgioaaGreatDoorW.PrintMore
attribute [local go_sem] max2_int min2_int max_two min_two max_three min_three max_four min_four
set_option linter.unusedVariables false
set_option linter.unusedSimpArgs false

def squelchref30_text.l0 : Nat → ByteArray → ByteArray → Int → Option (ByteArray)
 | 0, _, _, _ => none
 | k + 1, x0, x3, x4 => if x4 < (x0.size : Int) then (if 0 ≤ x4 then (if (bt x0 x4) < 33 then (if x3.size + 1 ≤ 9223372036854775807 then ((squelchref30_two.f (bt x0 x4)).bind fun t203 => (if (x3 ++ (⟨#[37]⟩ : ByteArray)).size + t203.size ≤ 9223372036854775807 then (squelchref30_text.l0 k x0 ((x3 ++ (⟨#[37]⟩ : ByteArray)) ++ t203) (wrap64 (x4 + 1))) else (none))) else (none)) else (if (bt x0 x4) > 126 then (if x3.size + 1 ≤ 9223372036854775807 then ((squelchref30_two.f (bt x0 x4)).bind fun t204 => (if (x3 ++ (⟨#[37]⟩ : ByteArray)).size + t204.size ≤ 9223372036854775807 then (squelchref30_text.l0 k x0 ((x3 ++ (⟨#[37]⟩ : ByteArray)) ++ t204) (wrap64 (x4 + 1))) else (none))) else (none)) else (if (bt x0 x4) = 37 then (if x3.size + 1 ≤ 9223372036854775807 then ((squelchref30_two.f (bt x0 x4)).bind fun t205 => (if (x3 ++ (⟨#[37]⟩ : ByteArray)).size + t205.size ≤ 9223372036854775807 then (squelchref30_text.l0 k x0 ((x3 ++ (⟨#[37]⟩ : ByteArray)) ++ t205) (wrap64 (x4 + 1))) else (none))) else (none)) else (if x4 ≤ (wrap64 (x4 + 1)) then (if (wrap64 (x4 + 1)) ≤ (x0.size : Int) then (if x3.size + (x0.extract (x4 : Int).toNat ((wrap64 (x4 + 1)) : Int).toNat).size ≤ 9223372036854775807 then (squelchref30_text.l0 k x0 (x3 ++ (x0.extract (x4 : Int).toNat ((wrap64 (x4 + 1)) : Int).toNat)) (wrap64 (x4 + 1))) else (none)) else (none)) else (none))))) else (none)) else (some x3)
def squelchref30_text.f (k : Nat) (a0 : ByteArray) : Option (ByteArray) := squelchref30_text.l0 k a0 (⟨#[61]⟩ : ByteArray) 0
end Go.Proofs.YtndgaeldndgioaaGreatDoor.QAll
end

section
/- squelchref30.Print, walked by hand, for each kind that there is. -/
set_option linter.unusedVariables false
set_option linter.unusedSimpArgs false
namespace Go.Proofs.YtndgaeldndgioaaGreatDoor.QAll
open Go.RowKit Go.Proofs.YtndgaeldndgioaaGreatDoorW.PrintWords Go.Proofs.YtndgaeldndgioaaGreatDoorW.PrintLast Go.Proofs.YtndgaeldndgioaaGreatDoorW.PrintMore

def namesL : List ByteArray := [⟨#[]⟩, ⟨#[75, 69, 89, 83]⟩, ⟨#[75, 73, 83, 83]⟩, ⟨#[82, 69, 65, 68]⟩, ⟨#[84, 73, 67, 75]⟩, ⟨#[76, 79, 83, 69]⟩, ⟨#[83, 80, 79, 73, 76]⟩, ⟨#[66, 76, 79, 67, 75]⟩, ⟨#[79, 80, 69, 78]⟩, ⟨#[83, 84, 65, 78, 68]⟩, ⟨#[77, 79, 86, 69]⟩, ⟨#[84, 85, 82, 78]⟩]
theorem cells9 {w : World} {g : Nat} {v0 v1 v2 v3 v4 v5 v6 v7 v8 : Value} {t : TypeId} (h : w.heap[g]? = some (.cells #[v0, v1, v2, v3, v4, v5, v6, v7, v8] t (0, 0))) :
    w.cell? ⟨g, 0, none⟩ = some v0 ∧ w.cell? ⟨g, 1, none⟩ = some v1 ∧ w.cell? ⟨g, 2, none⟩ = some v2 ∧ w.cell? ⟨g, 3, none⟩ = some v3 ∧ w.cell? ⟨g, 4, none⟩ = some v4 ∧ w.cell? ⟨g, 5, none⟩ = some v5 ∧ w.cell? ⟨g, 6, none⟩ = some v6 ∧ w.cell? ⟨g, 7, none⟩ = some v7 ∧ w.cell? ⟨g, 8, none⟩ = some v8 := by
  simp [World.cell?, h]
end Go.Proofs.YtndgaeldndgioaaGreatDoor.QAll
end

section
/- The names and the letters of the kinds: what script.form tells; and script.line by it. -/
set_option linter.unusedVariables false
set_option linter.unusedSimpArgs false
namespace Go.Proofs.YtndgaeldndgioaaGreatDoor.QAll
open Go.RowKit Go.Proofs.YtndgaeldndgioaaGreatDoorW.PrintWords Go.Proofs.YtndgaeldndgioaaGreatDoorW.PrintLast Go.Proofs.YtndgaeldndgioaaGreatDoorW.PrintMore
open Go.Proofs.YtndgaeldndgioaaGreatDoor.Fl

/-- A kind's letters. -/
def lettL : List (List UInt8) := [[], [65, 83], [65, 83], [65], [68], [65, 66], [65, 66, 78, 77], [65, 66], [65, 66], [65, 88, 89, 78], [65, 88, 89], [65, 88, 89]]
def lettersOf (k : Nat) : ByteArray := ⟨(lettL.getD k []).toArray⟩
def nameOf (k : Nat) : ByteArray := namesL.getD k ⟨#[]⟩
theorem form_all : ((List.range 12).all fun k => decide (script_form.f (k : Int) = some (nameOf k, lettersOf k))) = true := by kernel_rfl
theorem form_at (k : Nat) (hk : k < 12) : script_form.f (k : Int) = some (nameOf k, lettersOf k) := of_decide_eq_true (List.all_eq_true.1 form_all k (List.mem_range.2 hk))
theorem name_all : ((List.range 12).all fun k => k == 0 || !((nameOf k).toList == [])) = true := by kernel_rfl
theorem name_ne (k : Nat) (h0 : 0 < k) (hk : k < 12) : ((nameOf k).toList == []) = false := by
  have h := List.all_eq_true.1 name_all k (List.mem_range.2 hk)
  have e : (k == 0) = false := beq_false_of_ne (by omega)
  rw [e, Bool.false_or] at h
  simpa using h
theorem lett_all : ((List.range 12).all fun k => decide ((lettersOf k).size ≤ 4) && (lettersOf k).data.toList.all fun c => decide (c.toNat < 128)) = true := by kernel_rfl
theorem lett_size (k : Nat) (hk : k < 12) : (lettersOf k).size ≤ 4 := by
  have h := List.all_eq_true.1 lett_all k (List.mem_range.2 hk)
  rw [Bool.and_eq_true] at h
  exact of_decide_eq_true h.1
theorem lett_ascii (k : Nat) (hk : k < 12) (j : Nat) (h : j < (lettersOf k).size) : ((lettersOf k)[j]'h).toNat < 128 := by
  have h1 := List.all_eq_true.1 lett_all k (List.mem_range.2 hk)
  rw [Bool.and_eq_true] at h1
  exact of_decide_eq_true (List.all_eq_true.1 h1.2 _ (by
    show (lettersOf k).data[j] ∈ _
    exact Array.mem_toList_iff.2 (Array.getElem_mem _)))
/-- script.line of an event of a kind that there is. -/
theorem line_calls (e : Ev) (A : Option Addr) (c : Nat) (k : Nat) (h0 : 0 < k) (hk : k < 12) (hek : e.k = k) (res : Option (List ByteArray)) (r1 : ByteArray) (r2 : Bool) (w : World) (hE : EnvW w) (ho : EvOk e) (hd : (Kd.int .u8).C w A e.d.length e.d)
    (hL : lineL e (lettersOf k).data.toList [nameOf k] = some res) (hR : lineR res = some (r1, r2)) :
    Calls Tryz.prog 48 #[evV e A c] w fun r w' => r = .returned (.tuple #[.string r1, .bool r2]) ∧ Below w.heap.size w w' :=
  line_core e A c (nameOf k) (lettersOf k) res r1 r2 w hE ho hd (by rw [hek]; exact form_at k hk) (name_ne k h0 hk) (by have := lett_size k hk; omega) (lett_ascii k hk) hL hR
end Go.Proofs.YtndgaeldndgioaaGreatDoor.QAll
end

section
/- What the walks take from the library's shelf, at this program: written by the kit's own tools, the wanted ones picked by a program of this session (wip/pp/shelf.py). -/
namespace Go.Proofs
open Go.Shelf
def Tryz.lays137_ren : Go.Shelf.Ren := ⟨fun | 137 => 102 | 217 => 119 | 266 => 132 | n => n, fun | 9 => 9 | 5 => 5 | 3 => 3 | n => n, fun | n => n⟩
theorem Tryz.lays137 : Go.Proofs.Lays.n137 Tryz.prog Tryz.lays137_ren := {
  mixed := by kernel_rfl
  f137 := Tryz.func102.trans (congrArg some (by kernel_rfl))
  f217 := Tryz.func119.trans (congrArg some (by kernel_rfl))
  f266 := Tryz.func132.trans (congrArg some (by kernel_rfl))
  t3 := Tryz.underlying3
  a3 := Tryz.isAgg3
  z3 := Tryz.sizeOf3
  v3 := Tryz.zeroValue3
  t5 := Tryz.underlying5
  a5 := Tryz.isAgg5
  z5 := Tryz.sizeOf5
  v5 := Tryz.zeroValue5
  t9 := Tryz.underlying9
  a9 := Tryz.isAgg9
  z9 := Tryz.sizeOf9
  v9 := Tryz.zeroValue9 }
open Go.RowKit in
theorem Tryz.strings_IndexByte (s : ByteArray) (c : Int) (w : World) :
    Calls Tryz.prog 102 #[.string s, .int .u8 c] w fun e w' => e = .returned (.int .i64 (Lib.indexByte s.data.toList c.toNat.toUInt8)) ∧ w' = w := Any.strings_IndexByte Tryz.lays137 s c w
end Go.Proofs
end

section
/- strings.IndexByte, in the shape that the walks take it. -/
set_option linter.unusedVariables false
namespace Go.Proofs.YtndgaeldndgioaaGreatDoor.QAll
open Go.RowKit Go.Shelf Go.Proofs.YtndgaeldndgioaaGreatDoorW.PrintWords Go.Proofs.YtndgaeldndgioaaGreatDoorW.PrintLast Go.Proofs.YtndgaeldndgioaaGreatDoorW.PrintMore
def strings_IndexByte.f (a0 : ByteArray) (a1 : Int) : Option Int := some (Lib.indexByte a0.data.toList a1.toNat.toUInt8)
theorem strings_IndexByte.calls (a0 : ByteArray) (a1 : Int) (r : Int) (w : World) (h : strings_IndexByte.f a0 a1 = some r) :
    Calls Tryz.prog 102 #[.string a0, .int .u8 a1] w fun e w' => e = .returned (.int .i64 r) ∧ Drawn0 w w' := by
  obtain rfl := Option.some.inj h
  refine (Tryz.strings_IndexByte a0 a1 w).mono ?_
  rintro e w' ⟨rfl, rfl⟩
  exact ⟨rfl, Drawn0.refl _⟩
end Go.Proofs.YtndgaeldndgioaaGreatDoor.QAll
end

section
/- Walks, written by a program of this session (wip/pp): a Go function comes to what the Lean function beside it tells. -/
namespace Go.Proofs.YtndgaeldndgioaaGreatDoor.QAll
open Go.RowKit Go.Proofs.YtndgaeldndgioaaGreatDoorW.PrintWords Go.Proofs.YtndgaeldndgioaaGreatDoorW.PrintLast Go.Proofs.YtndgaeldndgioaaGreatDoorW.PrintMore
attribute [local go_sem] max2_int min2_int max_two min_two max_three min_three max_four min_four
set_option linter.unusedVariables false
set_option linter.unusedSimpArgs false

def script_value.f (a0 : ByteArray) : Option (Int × Bool) := if 0 < (a0.size : Int) then ((strings_IndexByte.f (⟨#[48, 49, 50, 51, 52, 53, 54, 55, 56, 57, 65, 66, 67, 68, 69, 70]⟩ : ByteArray) (bt a0 0)).bind fun t149 => (if 1 < (a0.size : Int) then ((strings_IndexByte.f (⟨#[48, 49, 50, 51, 52, 53, 54, 55, 56, 57, 65, 66, 67, 68, 69, 70]⟩ : ByteArray) (bt a0 1)).bind fun t150 => (if t149 ≥ 0 then (some ((Go.bits .or .i64 (wrap64 (t149 * 16)) (Go.bits .and .i64 t150 15)) % 256, decide (t150 ≥ 0))) else (some ((Go.bits .or .i64 (wrap64 (t149 * 16)) (Go.bits .and .i64 t150 15)) % 256, false)))) else (none))) else (none)
set_option maxHeartbeats 8000000 in
set_option maxRecDepth 100000 in
theorem script_value.calls (a0 : ByteArray) (r1 : Int) (r2 : Bool) (w : World) (h : script_value.f a0 = some (r1, r2)) :
  Calls Tryz.prog 80 #[.string a0] w fun e w' => e = .returned (.tuple #[.int .u8 r1, .bool r2]) ∧ Drawn0 w w' := by
 have H : (if 0 < (a0.size : Int) then ((strings_IndexByte.f (⟨#[48, 49, 50, 51, 52, 53, 54, 55, 56, 57, 65, 66, 67, 68, 69, 70]⟩ : ByteArray) (bt a0 0)).bind fun t149 => (if 1 < (a0.size : Int) then ((strings_IndexByte.f (⟨#[48, 49, 50, 51, 52, 53, 54, 55, 56, 57, 65, 66, 67, 68, 69, 70]⟩ : ByteArray) (bt a0 1)).bind fun t150 => (if t149 ≥ 0 then (some ((Go.bits .or .i64 (wrap64 (t149 * 16)) (Go.bits .and .i64 t150 15)) % 256, decide (t150 ≥ 0))) else (some ((Go.bits .or .i64 (wrap64 (t149 * 16)) (Go.bits .and .i64 t150 15)) % 256, false)))) else (none))) else (none)) = some (r1, r2) := h
 clear h
 by_cases c2 : 0 < (a0.size : Int)
 ·rw [if_pos c2] at H
  have c2b0 : decide (0 < (a0.size : Int)) = true := decide_eq_true c2
  have c2b1 : decide (0 < a0.size) = true := decide_eq_true (by omega)
  clear c2
  replace H := Option.bind_eq_some_iff.mp H
  obtain ⟨t149, A40, H⟩ := H
  replace H : (if 1 < (a0.size : Int) then ((strings_IndexByte.f (⟨#[48, 49, 50, 51, 52, 53, 54, 55, 56, 57, 65, 66, 67, 68, 69, 70]⟩ : ByteArray) (bt a0 1)).bind fun t150 => (if t149 ≥ 0 then (some ((Go.bits .or .i64 (wrap64 (t149 * 16)) (Go.bits .and .i64 t150 15)) % 256, decide (t150 ≥ 0))) else (some ((Go.bits .or .i64 (wrap64 (t149 * 16)) (Go.bits .and .i64 t150 15)) % 256, false)))) else (none)) = some (r1, r2) := H
  have A4 := Aside0.mk A40
  clear A40
  by_cases c5 : 1 < (a0.size : Int)
  ·rw [if_pos c5] at H
   have c5b0 : decide (1 < (a0.size : Int)) = true := decide_eq_true c5
   have c5b1 : decide (1 < a0.size) = true := decide_eq_true (by omega)
   clear c5
   replace H := Option.bind_eq_some_iff.mp H
   obtain ⟨t150, A70, H⟩ := H
   replace H : (if t149 ≥ 0 then (some ((Go.bits .or .i64 (wrap64 (t149 * 16)) (Go.bits .and .i64 t150 15)) % 256, decide (t150 ≥ 0))) else (some ((Go.bits .or .i64 (wrap64 (t149 * 16)) (Go.bits .and .i64 t150 15)) % 256, false))) = some (r1, r2) := H
   have A7 := Aside0.mk A70
   clear A70
   by_cases c8 : t149 ≥ 0
   ·rw [if_pos c8] at H
    have c8b0 : decide (0 ≤ t149) = true := decide_eq_true c8
    clear c8
    simp only [Option.some.injEq, Prod.mk.injEq] at H
    obtain ⟨rfl, rfl⟩ := H
    have p3 : 0 ≤ (0 : Int) := (by omega)
    have q3 : 0 < a0.size := (by have : (0 : Int) < (a0.size : Int) := of_decide_eq_true (by first | (with_reducible assumption) | assumption); omega)
    have hx3 : ∀ h : 0 < a0.size, ((a0[0]'h).toNat : Int) = bt a0 0 := bt_at a0 0
    clear p3
    have qi3 : (0 < (a0.size : Int)) = True := eq_true (of_decide_eq_true (by first | (with_reducible assumption) | assumption))
    replace q3 := eq_true q3
    go_enter Tryz.func80, Tryz.ntmps80
    go_wp2_with (first | (go_at_call 102; (with_reducible refine (strings_IndexByte.calls (⟨#[48, 49, 50, 51, 52, 53, 54, 55, 56, 57, 65, 66, 67, 68, 69, 70]⟩ : ByteArray) (bt a0 0) t149 _ A4.out).mono ?_); rintro e w' ⟨rfl, ⟨nd, rfl⟩⟩; (try first | exact ⟨rfl, _, World.drewN_drewN _ _ _⟩ | exact ⟨rfl, _, Eq.trans (World.drewN_drewN _ _ _) (congrArg (World.drewN _) (Nat.add_assoc _ _ _))⟩); have p6 : 0 ≤ (1 : Int) := (by omega); have q6 : 1 < a0.size := (by have : (1 : Int) < (a0.size : Int) := of_decide_eq_true (by first | (with_reducible assumption) | assumption); omega); have hx6 : ∀ h : 1 < a0.size, ((a0[1]'h).toNat : Int) = bt a0 1 := bt_at a0 1; clear p6; have qi6 : (1 < (a0.size : Int)) = True := eq_true (of_decide_eq_true (by first | (with_reducible assumption) | assumption)); replace q6 := eq_true q6) | (go_at_call 102; (with_reducible refine (strings_IndexByte.calls (⟨#[48, 49, 50, 51, 52, 53, 54, 55, 56, 57, 65, 66, 67, 68, 69, 70]⟩ : ByteArray) (bt a0 1) t150 _ A7.out).mono ?_); rintro e w' ⟨rfl, ⟨nd, rfl⟩⟩; (try first | exact ⟨rfl, _, World.drewN_drewN _ _ _⟩ | exact ⟨rfl, _, Eq.trans (World.drewN_drewN _ _ _) (congrArg (World.drewN _) (Nat.add_assoc _ _ _))⟩)))
    repeat (go_quiet (first | (go_at_call 102; (with_reducible refine (strings_IndexByte.calls (⟨#[48, 49, 50, 51, 52, 53, 54, 55, 56, 57, 65, 66, 67, 68, 69, 70]⟩ : ByteArray) (bt a0 0) t149 _ A4.out).mono ?_); rintro e w' ⟨rfl, ⟨nd, rfl⟩⟩; (try first | exact ⟨rfl, _, World.drewN_drewN _ _ _⟩ | exact ⟨rfl, _, Eq.trans (World.drewN_drewN _ _ _) (congrArg (World.drewN _) (Nat.add_assoc _ _ _))⟩); have p6 : 0 ≤ (1 : Int) := (by omega); have q6 : 1 < a0.size := (by have : (1 : Int) < (a0.size : Int) := of_decide_eq_true (by first | (with_reducible assumption) | assumption); omega); have hx6 : ∀ h : 1 < a0.size, ((a0[1]'h).toNat : Int) = bt a0 1 := bt_at a0 1; clear p6; have qi6 : (1 < (a0.size : Int)) = True := eq_true (of_decide_eq_true (by first | (with_reducible assumption) | assumption)); replace q6 := eq_true q6) | (go_at_call 102; (with_reducible refine (strings_IndexByte.calls (⟨#[48, 49, 50, 51, 52, 53, 54, 55, 56, 57, 65, 66, 67, 68, 69, 70]⟩ : ByteArray) (bt a0 1) t150 _ A7.out).mono ?_); rintro e w' ⟨rfl, ⟨nd, rfl⟩⟩; (try first | exact ⟨rfl, _, World.drewN_drewN _ _ _⟩ | exact ⟨rfl, _, Eq.trans (World.drewN_drewN _ _ _) (congrArg (World.drewN _) (Nat.add_assoc _ _ _))⟩))); try go_wp2_with (first | (go_at_call 102; (with_reducible refine (strings_IndexByte.calls (⟨#[48, 49, 50, 51, 52, 53, 54, 55, 56, 57, 65, 66, 67, 68, 69, 70]⟩ : ByteArray) (bt a0 0) t149 _ A4.out).mono ?_); rintro e w' ⟨rfl, ⟨nd, rfl⟩⟩; (try first | exact ⟨rfl, _, World.drewN_drewN _ _ _⟩ | exact ⟨rfl, _, Eq.trans (World.drewN_drewN _ _ _) (congrArg (World.drewN _) (Nat.add_assoc _ _ _))⟩); have p6 : 0 ≤ (1 : Int) := (by omega); have q6 : 1 < a0.size := (by have : (1 : Int) < (a0.size : Int) := of_decide_eq_true (by first | (with_reducible assumption) | assumption); omega); have hx6 : ∀ h : 1 < a0.size, ((a0[1]'h).toNat : Int) = bt a0 1 := bt_at a0 1; clear p6; have qi6 : (1 < (a0.size : Int)) = True := eq_true (of_decide_eq_true (by first | (with_reducible assumption) | assumption)); replace q6 := eq_true q6) | (go_at_call 102; (with_reducible refine (strings_IndexByte.calls (⟨#[48, 49, 50, 51, 52, 53, 54, 55, 56, 57, 65, 66, 67, 68, 69, 70]⟩ : ByteArray) (bt a0 1) t150 _ A7.out).mono ?_); rintro e w' ⟨rfl, ⟨nd, rfl⟩⟩; (try first | exact ⟨rfl, _, World.drewN_drewN _ _ _⟩ | exact ⟨rfl, _, Eq.trans (World.drewN_drewN _ _ _) (congrArg (World.drewN _) (Nat.add_assoc _ _ _))⟩))))
    go_ret2
    exact ⟨by first | rfl | (simp; done) | (simp [*]; done) | (simp; exact (fun l : List UInt8 => (by cases l <;> rfl : l.isEmpty = !(l != []))) _), by repeat (first | exact Drawn0.refl _ | apply Drawn0.step)⟩
   ·rw [if_neg c8] at H
    have c8b0 : decide (0 ≤ t149) = false := decide_eq_false c8
    clear c8
    simp only [Option.some.injEq, Prod.mk.injEq] at H
    obtain ⟨rfl, rfl⟩ := H
    have p3 : 0 ≤ (0 : Int) := (by omega)
    have q3 : 0 < a0.size := (by have : (0 : Int) < (a0.size : Int) := of_decide_eq_true (by first | (with_reducible assumption) | assumption); omega)
    have hx3 : ∀ h : 0 < a0.size, ((a0[0]'h).toNat : Int) = bt a0 0 := bt_at a0 0
    clear p3
    have qi3 : (0 < (a0.size : Int)) = True := eq_true (of_decide_eq_true (by first | (with_reducible assumption) | assumption))
    replace q3 := eq_true q3
    go_enter Tryz.func80, Tryz.ntmps80
    go_wp2_with (first | (go_at_call 102; (with_reducible refine (strings_IndexByte.calls (⟨#[48, 49, 50, 51, 52, 53, 54, 55, 56, 57, 65, 66, 67, 68, 69, 70]⟩ : ByteArray) (bt a0 0) t149 _ A4.out).mono ?_); rintro e w' ⟨rfl, ⟨nd, rfl⟩⟩; (try first | exact ⟨rfl, _, World.drewN_drewN _ _ _⟩ | exact ⟨rfl, _, Eq.trans (World.drewN_drewN _ _ _) (congrArg (World.drewN _) (Nat.add_assoc _ _ _))⟩); have p6 : 0 ≤ (1 : Int) := (by omega); have q6 : 1 < a0.size := (by have : (1 : Int) < (a0.size : Int) := of_decide_eq_true (by first | (with_reducible assumption) | assumption); omega); have hx6 : ∀ h : 1 < a0.size, ((a0[1]'h).toNat : Int) = bt a0 1 := bt_at a0 1; clear p6; have qi6 : (1 < (a0.size : Int)) = True := eq_true (of_decide_eq_true (by first | (with_reducible assumption) | assumption)); replace q6 := eq_true q6) | (go_at_call 102; (with_reducible refine (strings_IndexByte.calls (⟨#[48, 49, 50, 51, 52, 53, 54, 55, 56, 57, 65, 66, 67, 68, 69, 70]⟩ : ByteArray) (bt a0 1) t150 _ A7.out).mono ?_); rintro e w' ⟨rfl, ⟨nd, rfl⟩⟩; (try first | exact ⟨rfl, _, World.drewN_drewN _ _ _⟩ | exact ⟨rfl, _, Eq.trans (World.drewN_drewN _ _ _) (congrArg (World.drewN _) (Nat.add_assoc _ _ _))⟩)))
    repeat (go_quiet (first | (go_at_call 102; (with_reducible refine (strings_IndexByte.calls (⟨#[48, 49, 50, 51, 52, 53, 54, 55, 56, 57, 65, 66, 67, 68, 69, 70]⟩ : ByteArray) (bt a0 0) t149 _ A4.out).mono ?_); rintro e w' ⟨rfl, ⟨nd, rfl⟩⟩; (try first | exact ⟨rfl, _, World.drewN_drewN _ _ _⟩ | exact ⟨rfl, _, Eq.trans (World.drewN_drewN _ _ _) (congrArg (World.drewN _) (Nat.add_assoc _ _ _))⟩); have p6 : 0 ≤ (1 : Int) := (by omega); have q6 : 1 < a0.size := (by have : (1 : Int) < (a0.size : Int) := of_decide_eq_true (by first | (with_reducible assumption) | assumption); omega); have hx6 : ∀ h : 1 < a0.size, ((a0[1]'h).toNat : Int) = bt a0 1 := bt_at a0 1; clear p6; have qi6 : (1 < (a0.size : Int)) = True := eq_true (of_decide_eq_true (by first | (with_reducible assumption) | assumption)); replace q6 := eq_true q6) | (go_at_call 102; (with_reducible refine (strings_IndexByte.calls (⟨#[48, 49, 50, 51, 52, 53, 54, 55, 56, 57, 65, 66, 67, 68, 69, 70]⟩ : ByteArray) (bt a0 1) t150 _ A7.out).mono ?_); rintro e w' ⟨rfl, ⟨nd, rfl⟩⟩; (try first | exact ⟨rfl, _, World.drewN_drewN _ _ _⟩ | exact ⟨rfl, _, Eq.trans (World.drewN_drewN _ _ _) (congrArg (World.drewN _) (Nat.add_assoc _ _ _))⟩))); try go_wp2_with (first | (go_at_call 102; (with_reducible refine (strings_IndexByte.calls (⟨#[48, 49, 50, 51, 52, 53, 54, 55, 56, 57, 65, 66, 67, 68, 69, 70]⟩ : ByteArray) (bt a0 0) t149 _ A4.out).mono ?_); rintro e w' ⟨rfl, ⟨nd, rfl⟩⟩; (try first | exact ⟨rfl, _, World.drewN_drewN _ _ _⟩ | exact ⟨rfl, _, Eq.trans (World.drewN_drewN _ _ _) (congrArg (World.drewN _) (Nat.add_assoc _ _ _))⟩); have p6 : 0 ≤ (1 : Int) := (by omega); have q6 : 1 < a0.size := (by have : (1 : Int) < (a0.size : Int) := of_decide_eq_true (by first | (with_reducible assumption) | assumption); omega); have hx6 : ∀ h : 1 < a0.size, ((a0[1]'h).toNat : Int) = bt a0 1 := bt_at a0 1; clear p6; have qi6 : (1 < (a0.size : Int)) = True := eq_true (of_decide_eq_true (by first | (with_reducible assumption) | assumption)); replace q6 := eq_true q6) | (go_at_call 102; (with_reducible refine (strings_IndexByte.calls (⟨#[48, 49, 50, 51, 52, 53, 54, 55, 56, 57, 65, 66, 67, 68, 69, 70]⟩ : ByteArray) (bt a0 1) t150 _ A7.out).mono ?_); rintro e w' ⟨rfl, ⟨nd, rfl⟩⟩; (try first | exact ⟨rfl, _, World.drewN_drewN _ _ _⟩ | exact ⟨rfl, _, Eq.trans (World.drewN_drewN _ _ _) (congrArg (World.drewN _) (Nat.add_assoc _ _ _))⟩))))
    go_ret2
    exact ⟨by first | rfl | (simp; done) | (simp [*]; done) | (simp; exact (fun l : List UInt8 => (by cases l <;> rfl : l.isEmpty = !(l != []))) _), by repeat (first | exact Drawn0.refl _ | apply Drawn0.step)⟩
  ·rw [if_neg c5] at H
   exact absurd H (by simp)
 ·rw [if_neg c2] at H
  exact absurd H (by simp)

end Go.Proofs.YtndgaeldndgioaaGreatDoor.QAll
end

section
/- Walks, written by a program of this session (wip/pp): a Go function comes to what the Lean function beside it tells. -/
namespace Go.Proofs.YtndgaeldndgioaaGreatDoor.QAll
open Go.RowKit Go.Proofs.YtndgaeldndgioaaGreatDoorW.PrintWords Go.Proofs.YtndgaeldndgioaaGreatDoorW.PrintLast Go.Proofs.YtndgaeldndgioaaGreatDoorW.PrintMore
attribute [local go_sem] max2_int min2_int max_two min_two max_three min_three max_four min_four
set_option linter.unusedVariables false
set_option linter.unusedSimpArgs false

def script_texts.l0 : Nat → ByteArray → List Int → Int → Option (ByteArray × Bool)
 | 0, _, _, _ => none
 | k + 1, x0, x4, x5 => if x5 < (x0.size : Int) then (if 0 ≤ x5 then (if (bt x0 x5) = 37 then (if (wrap64 (x5 + 2)) ≥ (x0.size : Int) then (some ((⟨#[]⟩ : ByteArray), false)) else (if 0 ≤ (wrap64 (x5 + 1)) then (if (wrap64 (x5 + 1)) ≤ (wrap64 (x5 + 3)) then (if (wrap64 (x5 + 3)) ≤ (x0.size : Int) then ((script_value.f (x0.extract ((wrap64 (x5 + 1)) : Int).toNat ((wrap64 (x5 + 3)) : Int).toNat)).bind fun bt154 => (if bt154.2 = true then (if x4.length < 140737488355328 then (script_texts.l0 k x0 (x4 ++ [bt154.1]) (wrap64 ((wrap64 (x5 + 2)) + 1))) else (none)) else (some ((⟨#[]⟩ : ByteArray), false)))) else (none)) else (none)) else (none))) else (if x4.length < 140737488355328 then (script_texts.l0 k x0 (x4 ++ [bt x0 x5]) (wrap64 (x5 + 1))) else (none))) else (none)) else (some (strOfNums x4, true))
def script_texts.f (k : Nat) (a0 : ByteArray) : Option (ByteArray × Bool) := script_texts.l0 k a0 ([] : List Int) 0
set_option maxHeartbeats 8000000 in
set_option maxRecDepth 100000 in
theorem script_texts.calls (k : Nat) (a0 : ByteArray) (r1 : ByteArray) (r2 : Bool) (w : World) (h : script_texts.f k a0 = some (r1, r2)) :
  Calls Tryz.prog 76 #[.string a0] w fun e w' => e = .returned (.tuple #[.string r1, .bool r2]) ∧ Below w.heap.size w w' := by
 have HB := Aside0.mk (Below.refl w.heap.size w)
 have H : (script_texts.l0 k a0 ([] : List Int) 0) = some (r1, r2) := h
 clear h
 have H' := Aside0.mk H
 clear H
 go_enter Tryz.func76, Tryz.ntmps76
 go_wp2
 go_loopg [4, 5] k (fun kq v4 v5 w' => ∃ (x4_1 : List Int) (x5_1 : Int), v5 = .int .i64 x5_1 ∧ Aside0 (script_texts.l0 kq a0 x4_1 x5_1 = some (r1, r2)) ∧ Aside0 (kq ≤ k) ∧ Aside0 (Kd.R (Kd.int .u8) 5 w' w.heap.size (fun _ => True) v4 x4_1) ∧ Aside0 (Below w.heap.size w w'))
 case atStart => exact ⟨(([] : List Int)), (0), (by first | rfl | (simp; done) | (simp [*]; done) | (simp; exact (fun l : List UInt8 => (by cases l <;> rfl : l.isEmpty = !(l != []))) _)), H', ⟨Nat.le_refl _⟩, ⟨by first | exact Kd.R_nil _ _ _ _ _ | exact Kd.N_nil _ _ _ _ _ | exact Kd.V_nil _ _ _ _ _ | exact Kd.Q_nil _ _ _ _ _ | exact Kd.S_nil _ _ _ _ _⟩, ⟨by repeat (first | (with_reducible first | exact HB.out | apply below_alloc | apply pw_below_drewN | apply below_drew1) | exact HB.out)⟩⟩
 case round =>
  clear H'
  obtain ⟨x4_1, x5_1, rfl, HA, HK1, HO_4, HB⟩ := hrel
  cases gk with
  | zero => exact absurd HA.out (by simp [script_texts.l0])
  | succ k1 =>
   have H := HA.out
   clear HA
   simp only [script_texts.l0] at H
   by_cases c2 : x5_1 < (a0.size : Int)
   ·rw [if_pos c2] at H
    have c2b0 : decide (x5_1 < (a0.size : Int)) = true := decide_eq_true c2
    clear c2
    by_cases c3 : 0 ≤ x5_1
    ·rw [if_pos c3] at H
     have c3b0 : decide (0 ≤ x5_1) = true := decide_eq_true c3
     clear c3
     by_cases c5 : (bt a0 x5_1) = 37
     ·rw [if_pos c5] at H
      have c5b0 : ((bt a0 x5_1) == 37) = true := beq_iff_eq.mpr c5
      have c5b1 : ((bt a0 x5_1) != 37) = false := bne_eq_false_iff_eq.mpr c5
      clear c5
      by_cases c6 : (wrap64 (x5_1 + 2)) ≥ (a0.size : Int)
      ·rw [if_pos c6] at H
       have c6b0 : decide ((a0.size : Int) ≤ (wrap64 (x5_1 + 2))) = true := decide_eq_true c6
       clear c6
       simp only [Option.some.injEq, Prod.mk.injEq] at H
       obtain ⟨rfl, rfl⟩ := H
       have p4 : 0 ≤ (x5_1 : Int) := of_decide_eq_true (by first | (with_reducible assumption) | assumption)
       have q4 : x5_1 < (a0.size : Int) := of_decide_eq_true (by first | (with_reducible assumption) | assumption)
       have hx4 := bt_at a0 x5_1
       replace p4 := eq_true p4
       replace q4 := eq_true q4
       go_wp2
       go_ret2
       exact ⟨by first | rfl | (simp [errW_none, errW_some] <;> rfl) | (simp [*, errW_none, errW_some] <;> rfl), by repeat (first | (with_reducible first | exact HB.out | apply below_alloc | apply pw_below_drewN | apply below_drew1) | exact HB.out)⟩
      ·rw [if_neg c6] at H
       have c6b0 : decide ((a0.size : Int) ≤ (wrap64 (x5_1 + 2))) = false := decide_eq_false c6
       clear c6
       obtain ⟨ji7, hji7⟩ : ∃ j_ : Int, (wrap64 (x5_1 + 1)) = j_ := ⟨_, rfl⟩
       replace H : (if 0 ≤ (ji7) then (if (ji7) ≤ (wrap64 (x5_1 + 3)) then (if (wrap64 (x5_1 + 3)) ≤ (a0.size : Int) then ((script_value.f (a0.extract ((ji7) : Int).toNat ((wrap64 (x5_1 + 3)) : Int).toNat)).bind fun bt154 => (if bt154.2 = true then (if x4_1.length < 140737488355328 then (script_texts.l0 k1 a0 (x4_1 ++ [bt154.1]) (wrap64 ((wrap64 (x5_1 + 2)) + 1))) else (none)) else (some ((⟨#[]⟩ : ByteArray), false)))) else (none)) else (none)) else (none)) = some (r1, r2) := by first | (rw [hji7] at H; exact H) | (simp only [hji7] at H ⊢; exact H)
       have hji7w : (IntKind.i64.wrap (x5_1 + 1)) = ji7 := (i64_w _).trans hji7
       by_cases c8 : 0 ≤ (ji7)
       ·rw [if_pos c8] at H
        have c8b0 := eq_true c8
        have c8b1 : decide (0 ≤ (ji7)) = true := decide_eq_true c8
        clear c8
        by_cases c9 : (ji7) ≤ (wrap64 (x5_1 + 3))
        ·rw [if_pos c9] at H
         have c9b0 := eq_true c9
         have c9b1 : decide ((ji7) ≤ (wrap64 (x5_1 + 3))) = true := decide_eq_true c9
         by_cases c10 : (wrap64 (x5_1 + 3)) ≤ (a0.size : Int)
         ·rw [if_pos c10] at H
          have c10b0 := eq_true c10
          have c10b1 : decide ((wrap64 (x5_1 + 3)) ≤ (a0.size : Int)) = true := decide_eq_true c10
          replace H := Option.bind_eq_some_iff.mp H
          obtain ⟨⟨t154, t155⟩, A110, H⟩ := H
          replace H : (if t155 = true then (if x4_1.length < 140737488355328 then (script_texts.l0 k1 a0 (x4_1 ++ [t154]) (wrap64 ((wrap64 (x5_1 + 2)) + 1))) else (none)) else (some ((⟨#[]⟩ : ByteArray), false))) = some (r1, r2) := H
          have A11 := Aside0.mk A110
          clear A110
          by_cases c12 : t155 = true
          ·subst c12
           have H1 : (if x4_1.length < 140737488355328 then (script_texts.l0 k1 a0 (x4_1 ++ [t154]) (wrap64 ((wrap64 (x5_1 + 2)) + 1))) else (none)) = some (r1, r2) := by rw [if_pos rfl] at H; exact H
           clear H
           have H := H1
           clear H1
           by_cases c13 : x4_1.length < 140737488355328
           ·rw [if_pos c13] at H
            have LMc13 := Aside0.mk c13
            clear c13
            obtain ⟨y156, hy156⟩ : ∃ y_ : List Int, y_ = (x4_1 ++ [t154]) := ⟨_, rfl⟩
            replace H : (script_texts.l0 k1 a0 y156 (wrap64 ((wrap64 (x5_1 + 2)) + 1))) = some (r1, r2) := by first | (rw [hy156]; with_reducible exact H) | (have H2_ := (Option.bind_some _ _).symm.trans H; rw [hy156]; with_reducible exact H2_) | (have H2_ := (Option.bind_some _ _).symm.trans H; with_reducible exact H2_) | with_reducible exact H | (rw [hy156]; exact H) | exact H
            have Ny156 := Aside0.mk hy156
            clear hy156
            have H' := Aside0.mk H
            clear H
            have p4 : 0 ≤ (x5_1 : Int) := of_decide_eq_true (by first | (with_reducible assumption) | assumption)
            have q4 : x5_1 < (a0.size : Int) := of_decide_eq_true (by first | (with_reducible assumption) | assumption)
            have hx4 := bt_at a0 x5_1
            replace p4 := eq_true p4
            replace q4 := eq_true q4
            go_wp2_with (first | ((with_reducible refine gate_callee (f := 80) rfl ?_); refine goesL_ (some 36) rfl rfl Tryz.func80 (by kernel_rfl) rfl #[.string (a0.extract ((ji7) : Int).toNat ((wrap64 (x5_1 + 3)) : Int).toNat)] rfl (by (try simp only [List.map_toArray, List.map_cons, List.map_nil]); first | done | (simp only [hji7]; rfl) | rfl | (simp only [List.length_drop, List.length_take]; rfl)) ?_; (with_reducible refine (script_value.calls (a0.extract ((ji7) : Int).toNat ((wrap64 (x5_1 + 3)) : Int).toNat) t154 true _ A11.out).mono ?_); rintro e w' ⟨rfl, ⟨nd, rfl⟩⟩; refine ⟨_, rfl, ?_⟩) | ((with_reducible refine gate_builtin (b := .append) (xs := #[.tmp 41, .tmp 43]) rfl ?_); at_builtin; refine Kd.R_append (Kd.int .u8) (w0 := w) w.heap.size rfl (.tmp 41) (.tmp 43) 24 5 (.int .u8 0) 1 rfl Tryz.underlying24 info5 rfl (by decide) (by omega) u4 x4_1 t154 [.int .u8 t154] (fun _ => True) (fun _ => False) rfl rfl ?aP (fun _ hk => hk.elim) ?aF ?aO ?aB ?aS ?aL ?_; (case aP => exact rfl); (case aB => exact (by repeat (first | (with_reducible first | exact HB.out | apply below_alloc | apply pw_below_drewN | apply below_drew1) | exact HB.out))); (case aF => exact (fun _ _ => trivial)); (case aO => exact (by (with_reducible repeat (first | apply Kd.R_alloc | apply Kd.R_drewN | apply Kd.R_drew)); exact HO_4.out)); (case aS => exact (below_size (by repeat (first | (with_reducible first | exact HB.out | apply below_alloc | apply pw_below_drewN | apply below_drew1) | exact HB.out)))); (case aL => have := LMc13.out; omega); intro v157 w14 ho hb hg hat; rw [← Ny156.out] at ho; have n0_ := Aside0.mk (hb); have n1_ := Aside0.mk (ho); clear HB; clear HO_4; have HB := n0_; have HO158 := n1_; clear n0_ n1_; clear ho hb hg hat))
            go_roundg k1
            case measure => have := HK1.out; omega
            case rel => exact ⟨(y156), (wrap64 ((wrap64 (x5_1 + 2)) + 1)), (by first | rfl | (simp; done) | (simp [*]; done) | (simp; exact (fun l : List UInt8 => (by cases l <;> rfl : l.isEmpty = !(l != []))) _)), H', ⟨by have := HK1.out; omega⟩, ⟨by (with_reducible repeat (first | apply Kd.R_alloc | apply Kd.R_drewN | apply Kd.R_drew)); exact HO158.out⟩, ⟨by repeat (first | (with_reducible first | exact HB.out | apply below_alloc | apply pw_below_drewN | apply below_drew1) | exact HB.out)⟩⟩
           ·rw [if_neg c13] at H
            exact absurd H (by simp)
          ·replace c12 := Bool.eq_false_iff.mpr c12
           subst c12
           have H1 : (some ((⟨#[]⟩ : ByteArray), false)) = some (r1, r2) := by rw [if_neg (show ¬ (false = true) by decide)] at H; exact H
           clear H
           have H := H1
           clear H1
           simp only [Option.some.injEq, Prod.mk.injEq] at H
           obtain ⟨rfl, rfl⟩ := H
           have p4 : 0 ≤ (x5_1 : Int) := of_decide_eq_true (by first | (with_reducible assumption) | assumption)
           have q4 : x5_1 < (a0.size : Int) := of_decide_eq_true (by first | (with_reducible assumption) | assumption)
           have hx4 := bt_at a0 x5_1
           replace p4 := eq_true p4
           replace q4 := eq_true q4
           go_wp2_with (first | ((with_reducible refine gate_callee (f := 80) rfl ?_); refine goesL_ (some 36) rfl rfl Tryz.func80 (by kernel_rfl) rfl #[.string (a0.extract ((ji7) : Int).toNat ((wrap64 (x5_1 + 3)) : Int).toNat)] rfl (by (try simp only [List.map_toArray, List.map_cons, List.map_nil]); first | done | (simp only [hji7]; rfl) | rfl | (simp only [List.length_drop, List.length_take]; rfl)) ?_; (with_reducible refine (script_value.calls (a0.extract ((ji7) : Int).toNat ((wrap64 (x5_1 + 3)) : Int).toNat) t154 false _ A11.out).mono ?_); rintro e w' ⟨rfl, ⟨nd, rfl⟩⟩; refine ⟨_, rfl, ?_⟩))
           go_ret2
           exact ⟨by first | rfl | (simp [errW_none, errW_some] <;> rfl) | (simp only [← hji7]; first | rfl | (simp [errW_none, errW_some] <;> rfl)) | (simp [*, errW_none, errW_some] <;> rfl), by repeat (first | (with_reducible first | exact HB.out | apply below_alloc | apply pw_below_drewN | apply below_drew1) | exact HB.out)⟩
         ·rw [if_neg c10] at H
          exact absurd H (by simp)
        ·rw [if_neg c9] at H
         exact absurd H (by simp)
       ·rw [if_neg c8] at H
        exact absurd H (by simp)
     ·rw [if_neg c5] at H
      have c5b0 : ((bt a0 x5_1) == 37) = false := beq_eq_false_iff_ne.mpr c5
      have c5b1 : ((bt a0 x5_1) != 37) = true := bne_iff_ne.mpr c5
      by_cases c16 : x4_1.length < 140737488355328
      ·rw [if_pos c16] at H
       have LMc16 := Aside0.mk c16
       clear c16
       obtain ⟨y151, hy151⟩ : ∃ y_ : List Int, y_ = (x4_1 ++ [bt a0 x5_1]) := ⟨_, rfl⟩
       replace H : (script_texts.l0 k1 a0 y151 (wrap64 (x5_1 + 1))) = some (r1, r2) := by first | (rw [hy151]; with_reducible exact H) | (have H2_ := (Option.bind_some _ _).symm.trans H; rw [hy151]; with_reducible exact H2_) | (have H2_ := (Option.bind_some _ _).symm.trans H; with_reducible exact H2_) | with_reducible exact H | (rw [hy151]; exact H) | exact H
       have Ny151 := Aside0.mk hy151
       clear hy151
       have H' := Aside0.mk H
       clear H
       have p4 : 0 ≤ (x5_1 : Int) := of_decide_eq_true (by first | (with_reducible assumption) | assumption)
       have q4 : x5_1 < (a0.size : Int) := of_decide_eq_true (by first | (with_reducible assumption) | assumption)
       have hx4 := bt_at a0 x5_1
       replace p4 := eq_true p4
       replace q4 := eq_true q4
       have p15 : 0 ≤ (x5_1 : Int) := of_decide_eq_true (by first | (with_reducible assumption) | assumption)
       have q15 : x5_1 < (a0.size : Int) := of_decide_eq_true (by first | (with_reducible assumption) | assumption)
       have hx15 := bt_at a0 x5_1
       replace p15 := eq_true p15
       replace q15 := eq_true q15
       go_wp2_with (first | ((with_reducible refine gate_builtin (b := .append) (xs := #[.tmp 18, .tmp 22]) rfl ?_); at_builtin; refine Kd.R_append (Kd.int .u8) (w0 := w) w.heap.size rfl (.tmp 18) (.tmp 22) 24 5 (.int .u8 0) 1 rfl Tryz.underlying24 info5 rfl (by decide) (by omega) u4 x4_1 (bt a0 x5_1) [.int .u8 (bt a0 x5_1)] (fun _ => True) (fun _ => False) rfl rfl ?aP (fun _ hk => hk.elim) ?aF ?aO ?aB ?aS ?aL ?_; (case aP => exact rfl); (case aB => exact (by repeat (first | (with_reducible first | exact HB.out | apply below_alloc | apply pw_below_drewN | apply below_drew1) | exact HB.out))); (case aF => exact (fun _ _ => trivial)); (case aO => exact (by (with_reducible repeat (first | apply Kd.R_alloc | apply Kd.R_drewN | apply Kd.R_drew)); exact HO_4.out)); (case aS => exact (below_size (by repeat (first | (with_reducible first | exact HB.out | apply below_alloc | apply pw_below_drewN | apply below_drew1) | exact HB.out)))); (case aL => have := LMc16.out; omega); intro v152 w17 ho hb hg hat; rw [← Ny151.out] at ho; have n0_ := Aside0.mk (hb); have n1_ := Aside0.mk (ho); clear HB; clear HO_4; have HB := n0_; have HO153 := n1_; clear n0_ n1_; clear ho hb hg hat))
       go_roundg k1
       case measure => have := HK1.out; omega
       case rel => exact ⟨(y151), (wrap64 (x5_1 + 1)), (by first | rfl | (simp; done) | (simp [*]; done) | (simp; exact (fun l : List UInt8 => (by cases l <;> rfl : l.isEmpty = !(l != []))) _)), H', ⟨by have := HK1.out; omega⟩, ⟨by (with_reducible repeat (first | apply Kd.R_alloc | apply Kd.R_drewN | apply Kd.R_drew)); exact HO153.out⟩, ⟨by repeat (first | (with_reducible first | exact HB.out | apply below_alloc | apply pw_below_drewN | apply below_drew1) | exact HB.out)⟩⟩
      ·rw [if_neg c16] at H
       exact absurd H (by simp)
    ·rw [if_neg c3] at H
     exact absurd H (by simp)
   ·rw [if_neg c2] at H
    have c2b0 : decide (x5_1 < (a0.size : Int)) = false := decide_eq_false c2
    clear c2
    simp only [Option.some.injEq, Prod.mk.injEq] at H
    obtain ⟨rfl, rfl⟩ := H
    have hcv18 := own_string (P := Tryz.prog) Tryz.underlying24 Tryz.underlying5 Tryz.underlying9 (Kd.own_of_R HO_4.out)
    go_wp2
    go_ret2
    exact ⟨by first | rfl | (simp [errW_none, errW_some] <;> rfl) | (simp [*, errW_none, errW_some] <;> rfl), by repeat (first | (with_reducible first | exact HB.out | apply below_alloc | apply pw_below_drewN | apply below_drew1) | exact HB.out)⟩

end Go.Proofs.YtndgaeldndgioaaGreatDoor.QAll
end

section
/- Walks, written by a program of this session (wip/pp): a Go function comes to what the Lean function beside it tells. -/
namespace Go.Proofs.YtndgaeldndgioaaGreatDoor.QAll
open Go.RowKit Go.Proofs.YtndgaeldndgioaaGreatDoorW.PrintWords Go.Proofs.YtndgaeldndgioaaGreatDoorW.PrintLast Go.Proofs.YtndgaeldndgioaaGreatDoorW.PrintMore
attribute [local go_sem] max2_int min2_int max_two min_two max_three min_three max_four min_four
set_option linter.unusedVariables false
set_option linter.unusedSimpArgs false

def stringslite_HasPrefix.f (a0 : ByteArray) (a1 : ByteArray) : Option (Bool) := if (a0.size : Int) ≥ (a1.size : Int) then (if 0 ≤ (a1.size : Int) then (if (a1.size : Int) ≤ (a0.size : Int) then (some ((a0.extract 0 ((a1.size : Int) : Int).toNat).toList == a1.toList)) else (none)) else (none)) else (some false)
set_option maxHeartbeats 8000000 in
set_option maxRecDepth 100000 in
theorem stringslite_HasPrefix.calls (a0 : ByteArray) (a1 : ByteArray) (r : Bool) (w : World) (h : stringslite_HasPrefix.f a0 a1 = some r) :
  Calls Tryz.prog 100 #[.string a0, .string a1] w fun e w' => e = .returned (.bool r) ∧ Drawn0 w w' := by
 have H : (if (a0.size : Int) ≥ (a1.size : Int) then (if 0 ≤ (a1.size : Int) then (if (a1.size : Int) ≤ (a0.size : Int) then (some ((a0.extract 0 ((a1.size : Int) : Int).toNat).toList == a1.toList)) else (none)) else (none)) else (some false)) = some r := h
 clear h
 by_cases c3 : (a0.size : Int) ≥ (a1.size : Int)
 ·rw [if_pos c3] at H
  have c3b0 : decide ((a1.size : Int) ≤ (a0.size : Int)) = true := decide_eq_true c3
  have c3b1 : decide (a1.size ≤ a0.size) = true := decide_eq_true (Int.ofNat_le.mp c3)
  clear c3
  by_cases c4 : 0 ≤ (a1.size : Int)
  ·rw [if_pos c4] at H
   have c4b0 := eq_true c4
   have c4b1 : decide (0 ≤ (a1.size : Int)) = true := decide_eq_true c4
   clear c4
   by_cases c5 : (a1.size : Int) ≤ (a0.size : Int)
   ·rw [if_pos c5] at H
    have c5b0 := eq_true c5
    have c5b1 : decide ((a1.size : Int) ≤ (a0.size : Int)) = true := decide_eq_true c5
    clear c5
    obtain rfl := Option.some.inj H
    go_enter Tryz.func100, Tryz.ntmps100
    go_wp2
    go_ret
    exact ⟨by first | rfl | (simp; done) | (simp [*]; done) | (simp; exact (fun l : List UInt8 => (by cases l <;> rfl : l.isEmpty = !(l != []))) _), by repeat (first | exact Drawn0.refl _ | apply Drawn0.step)⟩
   ·rw [if_neg c5] at H
    exact absurd H (by simp)
  ·rw [if_neg c4] at H
   exact absurd H (by simp)
 ·rw [if_neg c3] at H
  have c3b0 : decide ((a1.size : Int) ≤ (a0.size : Int)) = false := decide_eq_false c3
  have c3b1 : decide (a1.size ≤ a0.size) = false := decide_eq_false (fun h => c3 (Int.ofNat_le.mpr h))
  clear c3
  obtain rfl := Option.some.inj H
  go_enter Tryz.func100, Tryz.ntmps100
  go_wp2
  go_ret
  exact ⟨by first | rfl | (simp; done) | (simp [*]; done) | (simp; exact (fun l : List UInt8 => (by cases l <;> rfl : l.isEmpty = !(l != []))) _), by repeat (first | exact Drawn0.refl _ | apply Drawn0.step)⟩

end Go.Proofs.YtndgaeldndgioaaGreatDoor.QAll
end

section
/- Walks, written by a program of this session (wip/pp): a Go function comes to what the Lean function beside it tells. -/
namespace Go.Proofs.YtndgaeldndgioaaGreatDoor.QAll
open Go.RowKit Go.Proofs.YtndgaeldndgioaaGreatDoorW.PrintWords Go.Proofs.YtndgaeldndgioaaGreatDoorW.PrintLast Go.Proofs.YtndgaeldndgioaaGreatDoorW.PrintMore
attribute [local go_sem] max2_int min2_int max_two min_two max_three min_three max_four min_four
set_option linter.unusedVariables false
set_option linter.unusedSimpArgs false

def stringslite_TrimPrefix.f (a0 : ByteArray) (a1 : ByteArray) : Option (ByteArray) := (stringslite_HasPrefix.f a0 a1).bind fun t159 => (if t159 = true then (if 0 ≤ (a1.size : Int) then (if (a1.size : Int) ≤ (a0.size : Int) then (some (a0.extract ((a1.size : Int) : Int).toNat a0.size)) else (none)) else (none)) else (some a0))
set_option maxHeartbeats 8000000 in
set_option maxRecDepth 100000 in
theorem stringslite_TrimPrefix.calls (a0 : ByteArray) (a1 : ByteArray) (r : ByteArray) (w : World) (h : stringslite_TrimPrefix.f a0 a1 = some r) :
  Calls Tryz.prog 99 #[.string a0, .string a1] w fun e w' => e = .returned (.string r) ∧ Drawn0 w w' := by
 have H : ((stringslite_HasPrefix.f a0 a1).bind fun t159 => (if t159 = true then (if 0 ≤ (a1.size : Int) then (if (a1.size : Int) ≤ (a0.size : Int) then (some (a0.extract ((a1.size : Int) : Int).toNat a0.size)) else (none)) else (none)) else (some a0))) = some r := h
 clear h
 replace H := Option.bind_eq_some_iff.mp H
 obtain ⟨t159, A30, H⟩ := H
 replace H : (if t159 = true then (if 0 ≤ (a1.size : Int) then (if (a1.size : Int) ≤ (a0.size : Int) then (some (a0.extract ((a1.size : Int) : Int).toNat a0.size)) else (none)) else (none)) else (some a0)) = some r := H
 have A3 := Aside0.mk A30
 clear A30
 by_cases c4 : t159 = true
 ·subst c4
  have H1 : (if 0 ≤ (a1.size : Int) then (if (a1.size : Int) ≤ (a0.size : Int) then (some (a0.extract ((a1.size : Int) : Int).toNat a0.size)) else (none)) else (none)) = some r := by rw [if_pos rfl] at H; exact H
  clear H
  have H := H1
  clear H1
  by_cases c5 : 0 ≤ (a1.size : Int)
  ·rw [if_pos c5] at H
   have c5b0 := eq_true c5
   have c5b1 : decide (0 ≤ (a1.size : Int)) = true := decide_eq_true c5
   clear c5
   by_cases c6 : (a1.size : Int) ≤ (a0.size : Int)
   ·rw [if_pos c6] at H
    have c6b0 := eq_true c6
    have c6b1 : decide ((a1.size : Int) ≤ (a0.size : Int)) = true := decide_eq_true c6
    clear c6
    obtain rfl := Option.some.inj H
    go_enter Tryz.func99, Tryz.ntmps99
    go_wp2_with (first | ((with_reducible refine gate_callee (f := 100) rfl ?_); refine goesL_ (some 7) rfl rfl Tryz.func100 (by kernel_rfl) rfl #[.string a0, .string a1] rfl (by (try simp only [List.map_toArray, List.map_cons, List.map_nil]); first | done | rfl | (simp only [List.length_drop, List.length_take]; rfl)) ?_; (with_reducible refine (stringslite_HasPrefix.calls a0 a1 true _ A3.out).mono ?_); rintro e w' ⟨rfl, ⟨nd, rfl⟩⟩; refine ⟨_, rfl, ?_⟩))
    go_ret
    exact ⟨by first | rfl | (simp; done) | (simp [*]; done) | (simp; exact (fun l : List UInt8 => (by cases l <;> rfl : l.isEmpty = !(l != []))) _), by repeat (first | exact Drawn0.refl _ | apply Drawn0.step)⟩
   ·rw [if_neg c6] at H
    exact absurd H (by simp)
  ·rw [if_neg c5] at H
   exact absurd H (by simp)
 ·replace c4 := Bool.eq_false_iff.mpr c4
  subst c4
  have H1 : (some a0) = some r := by rw [if_neg (show ¬ (false = true) by decide)] at H; exact H
  clear H
  have H := H1
  clear H1
  obtain rfl := Option.some.inj H
  go_enter Tryz.func99, Tryz.ntmps99
  go_wp2_with (first | ((with_reducible refine gate_callee (f := 100) rfl ?_); refine goesL_ (some 7) rfl rfl Tryz.func100 (by kernel_rfl) rfl #[.string a0, .string a1] rfl (by (try simp only [List.map_toArray, List.map_cons, List.map_nil]); first | done | rfl | (simp only [List.length_drop, List.length_take]; rfl)) ?_; (with_reducible refine (stringslite_HasPrefix.calls a0 a1 false _ A3.out).mono ?_); rintro e w' ⟨rfl, ⟨nd, rfl⟩⟩; refine ⟨_, rfl, ?_⟩))
  go_ret
  exact ⟨by first | rfl | (simp; done) | (simp [*]; done) | (simp; exact (fun l : List UInt8 => (by cases l <;> rfl : l.isEmpty = !(l != []))) _), by repeat (first | exact Drawn0.refl _ | apply Drawn0.step)⟩

end Go.Proofs.YtndgaeldndgioaaGreatDoor.QAll
end

section
/- Walks, written by a program of this session (wip/pp): a Go function comes to what the Lean function beside it tells. -/
namespace Go.Proofs.YtndgaeldndgioaaGreatDoor.QAll
open Go.RowKit Go.Proofs.YtndgaeldndgioaaGreatDoorW.PrintWords Go.Proofs.YtndgaeldndgioaaGreatDoorW.PrintLast Go.Proofs.YtndgaeldndgioaaGreatDoorW.PrintMore
attribute [local go_sem] max2_int min2_int max_two min_two max_three min_three max_four min_four
set_option linter.unusedVariables false
set_option linter.unusedSimpArgs false

def strings_TrimPrefix.f (a0 : ByteArray) (a1 : ByteArray) : Option (ByteArray) := (stringslite_TrimPrefix.f a0 a1).bind fun t160 => (some t160)
set_option maxHeartbeats 8000000 in
set_option maxRecDepth 100000 in
theorem strings_TrimPrefix.calls (a0 : ByteArray) (a1 : ByteArray) (r : ByteArray) (w : World) (h : strings_TrimPrefix.f a0 a1 = some r) :
  Calls Tryz.prog 77 #[.string a0, .string a1] w fun e w' => e = .returned (.string r) ∧ Drawn0 w w' := by
 have H : ((stringslite_TrimPrefix.f a0 a1).bind fun t160 => (some t160)) = some r := h
 clear h
 replace H := Option.bind_eq_some_iff.mp H
 obtain ⟨t160, A30, H⟩ := H
 replace H : (some t160) = some r := H
 have A3 := Aside0.mk A30
 clear A30
 obtain rfl := Option.some.inj H
 go_enter Tryz.func77, Tryz.ntmps77
 go_wp2_with (first | ((with_reducible refine gate_callee (f := 99) rfl ?_); refine goesL_ (some 7) rfl rfl Tryz.func99 (by kernel_rfl) rfl #[.string a0, .string a1] rfl (by (try simp only [List.map_toArray, List.map_cons, List.map_nil]); first | done | rfl | (simp only [List.length_drop, List.length_take]; rfl)) ?_; (with_reducible refine (stringslite_TrimPrefix.calls a0 a1 t160 _ A3.out).mono ?_); rintro e w' ⟨rfl, ⟨nd, rfl⟩⟩; refine ⟨_, rfl, ?_⟩))
 go_ret
 exact ⟨by first | rfl | (simp; done) | (simp [*]; done) | (simp; exact (fun l : List UInt8 => (by cases l <;> rfl : l.isEmpty = !(l != []))) _), by repeat (first | exact Drawn0.refl _ | apply Drawn0.step)⟩

end Go.Proofs.YtndgaeldndgioaaGreatDoor.QAll
end

section
/- Walks, written by a program of this session (wip/pp): a Go function comes to what the Lean function beside it tells. -/
namespace Go.Proofs.YtndgaeldndgioaaGreatDoor.QAll
open Go.RowKit Go.Proofs.YtndgaeldndgioaaGreatDoorW.PrintWords Go.Proofs.YtndgaeldndgioaaGreatDoorW.PrintLast Go.Proofs.YtndgaeldndgioaaGreatDoorW.PrintMore
attribute [local go_sem] max2_int min2_int max_two min_two max_three min_three max_four min_four
set_option linter.unusedVariables false
set_option linter.unusedSimpArgs false

def strings_HasPrefix.f (a0 : ByteArray) (a1 : ByteArray) : Option (Bool) := (stringslite_HasPrefix.f a0 a1).bind fun t161 => (some t161)
set_option maxHeartbeats 8000000 in
set_option maxRecDepth 100000 in
theorem strings_HasPrefix.calls (a0 : ByteArray) (a1 : ByteArray) (r : Bool) (w : World) (h : strings_HasPrefix.f a0 a1 = some r) :
  Calls Tryz.prog 78 #[.string a0, .string a1] w fun e w' => e = .returned (.bool r) ∧ Drawn0 w w' := by
 have H : ((stringslite_HasPrefix.f a0 a1).bind fun t161 => (some t161)) = some r := h
 clear h
 replace H := Option.bind_eq_some_iff.mp H
 obtain ⟨t161, A30, H⟩ := H
 replace H : (some t161) = some r := H
 have A3 := Aside0.mk A30
 clear A30
 obtain rfl := Option.some.inj H
 go_enter Tryz.func78, Tryz.ntmps78
 go_wp2_with (first | ((with_reducible refine gate_callee (f := 100) rfl ?_); refine goesL_ (some 7) rfl rfl Tryz.func100 (by kernel_rfl) rfl #[.string a0, .string a1] rfl (by (try simp only [List.map_toArray, List.map_cons, List.map_nil]); first | done | rfl | (simp only [List.length_drop, List.length_take]; rfl)) ?_; (with_reducible refine (stringslite_HasPrefix.calls a0 a1 t161 _ A3.out).mono ?_); rintro e w' ⟨rfl, ⟨nd, rfl⟩⟩; refine ⟨_, rfl, ?_⟩))
 go_ret
 exact ⟨by first | rfl | (simp; done) | (simp [*]; done) | (simp; exact (fun l : List UInt8 => (by cases l <;> rfl : l.isEmpty = !(l != []))) _), by repeat (first | exact Drawn0.refl _ | apply Drawn0.step)⟩

end Go.Proofs.YtndgaeldndgioaaGreatDoor.QAll
end

section
/- Walks, written by a program of this session (wip/pp): a Go function comes to what the Lean function beside it tells. -/
namespace Go.Proofs.YtndgaeldndgioaaGreatDoor.QAll
open Go.RowKit Go.Proofs.YtndgaeldndgioaaGreatDoorW.PrintWords Go.Proofs.YtndgaeldndgioaaGreatDoorW.PrintLast Go.Proofs.YtndgaeldndgioaaGreatDoorW.PrintMore
attribute [local go_sem] max2_int min2_int max_two min_two max_three min_three max_four min_four
set_option linter.unusedVariables false
set_option linter.unusedSimpArgs false

def stringslite_CutPrefix.f (a0 : ByteArray) (a1 : ByteArray) : Option (ByteArray × Bool) := (stringslite_HasPrefix.f a0 a1).bind fun t162 => (if t162 = true then (if 0 ≤ (a1.size : Int) then (if (a1.size : Int) ≤ (a0.size : Int) then (some (a0.extract ((a1.size : Int) : Int).toNat a0.size, true)) else (none)) else (none)) else (some (a0, false)))
set_option maxHeartbeats 8000000 in
set_option maxRecDepth 100000 in
theorem stringslite_CutPrefix.calls (a0 : ByteArray) (a1 : ByteArray) (r1 : ByteArray) (r2 : Bool) (w : World) (h : stringslite_CutPrefix.f a0 a1 = some (r1, r2)) :
  Calls Tryz.prog 101 #[.string a0, .string a1] w fun e w' => e = .returned (.tuple #[.string r1, .bool r2]) ∧ Drawn0 w w' := by
 have H : ((stringslite_HasPrefix.f a0 a1).bind fun t162 => (if t162 = true then (if 0 ≤ (a1.size : Int) then (if (a1.size : Int) ≤ (a0.size : Int) then (some (a0.extract ((a1.size : Int) : Int).toNat a0.size, true)) else (none)) else (none)) else (some (a0, false)))) = some (r1, r2) := h
 clear h
 replace H := Option.bind_eq_some_iff.mp H
 obtain ⟨t162, A30, H⟩ := H
 replace H : (if t162 = true then (if 0 ≤ (a1.size : Int) then (if (a1.size : Int) ≤ (a0.size : Int) then (some (a0.extract ((a1.size : Int) : Int).toNat a0.size, true)) else (none)) else (none)) else (some (a0, false))) = some (r1, r2) := H
 have A3 := Aside0.mk A30
 clear A30
 by_cases c4 : t162 = true
 ·subst c4
  have H1 : (if 0 ≤ (a1.size : Int) then (if (a1.size : Int) ≤ (a0.size : Int) then (some (a0.extract ((a1.size : Int) : Int).toNat a0.size, true)) else (none)) else (none)) = some (r1, r2) := by rw [if_pos rfl] at H; exact H
  clear H
  have H := H1
  clear H1
  by_cases c5 : 0 ≤ (a1.size : Int)
  ·rw [if_pos c5] at H
   have c5b0 := eq_true c5
   have c5b1 : decide (0 ≤ (a1.size : Int)) = true := decide_eq_true c5
   clear c5
   by_cases c6 : (a1.size : Int) ≤ (a0.size : Int)
   ·rw [if_pos c6] at H
    have c6b0 := eq_true c6
    have c6b1 : decide ((a1.size : Int) ≤ (a0.size : Int)) = true := decide_eq_true c6
    clear c6
    simp only [Option.some.injEq, Prod.mk.injEq] at H
    obtain ⟨rfl, rfl⟩ := H
    go_enter Tryz.func101, Tryz.ntmps101
    go_wp2_with (first | ((with_reducible refine gate_callee (f := 100) rfl ?_); refine goesL_ (some 8) rfl rfl Tryz.func100 (by kernel_rfl) rfl #[.string a0, .string a1] rfl (by (try simp only [List.map_toArray, List.map_cons, List.map_nil]); first | done | rfl | (simp only [List.length_drop, List.length_take]; rfl)) ?_; (with_reducible refine (stringslite_HasPrefix.calls a0 a1 true _ A3.out).mono ?_); rintro e w' ⟨rfl, ⟨nd, rfl⟩⟩; refine ⟨_, rfl, ?_⟩))
    go_ret2
    exact ⟨by first | rfl | (simp; done) | (simp [*]; done) | (simp; exact (fun l : List UInt8 => (by cases l <;> rfl : l.isEmpty = !(l != []))) _), by repeat (first | exact Drawn0.refl _ | apply Drawn0.step)⟩
   ·rw [if_neg c6] at H
    exact absurd H (by simp)
  ·rw [if_neg c5] at H
   exact absurd H (by simp)
 ·replace c4 := Bool.eq_false_iff.mpr c4
  subst c4
  have H1 : (some (a0, false)) = some (r1, r2) := by rw [if_neg (show ¬ (false = true) by decide)] at H; exact H
  clear H
  have H := H1
  clear H1
  simp only [Option.some.injEq, Prod.mk.injEq] at H
  obtain ⟨rfl, rfl⟩ := H
  go_enter Tryz.func101, Tryz.ntmps101
  go_wp2_with (first | ((with_reducible refine gate_callee (f := 100) rfl ?_); refine goesL_ (some 8) rfl rfl Tryz.func100 (by kernel_rfl) rfl #[.string a0, .string a1] rfl (by (try simp only [List.map_toArray, List.map_cons, List.map_nil]); first | done | rfl | (simp only [List.length_drop, List.length_take]; rfl)) ?_; (with_reducible refine (stringslite_HasPrefix.calls a0 a1 false _ A3.out).mono ?_); rintro e w' ⟨rfl, ⟨nd, rfl⟩⟩; refine ⟨_, rfl, ?_⟩))
  go_ret2
  exact ⟨by first | rfl | (simp; done) | (simp [*]; done) | (simp; exact (fun l : List UInt8 => (by cases l <;> rfl : l.isEmpty = !(l != []))) _), by repeat (first | exact Drawn0.refl _ | apply Drawn0.step)⟩

end Go.Proofs.YtndgaeldndgioaaGreatDoor.QAll
end

section
/- Walks, written by a program of this session (wip/pp): a Go function comes to what the Lean function beside it tells. -/
namespace Go.Proofs.YtndgaeldndgioaaGreatDoor.QAll
open Go.RowKit Go.Proofs.YtndgaeldndgioaaGreatDoorW.PrintWords Go.Proofs.YtndgaeldndgioaaGreatDoorW.PrintLast Go.Proofs.YtndgaeldndgioaaGreatDoorW.PrintMore
attribute [local go_sem] max2_int min2_int max_two min_two max_three min_three max_four min_four
set_option linter.unusedVariables false
set_option linter.unusedSimpArgs false

def strings_CutPrefix.f (a0 : ByteArray) (a1 : ByteArray) : Option (ByteArray × Bool) := (stringslite_CutPrefix.f a0 a1).bind fun bt163 => (some (bt163.1, bt163.2))
set_option maxHeartbeats 8000000 in
set_option maxRecDepth 100000 in
theorem strings_CutPrefix.calls (a0 : ByteArray) (a1 : ByteArray) (r1 : ByteArray) (r2 : Bool) (w : World) (h : strings_CutPrefix.f a0 a1 = some (r1, r2)) :
  Calls Tryz.prog 79 #[.string a0, .string a1] w fun e w' => e = .returned (.tuple #[.string r1, .bool r2]) ∧ Drawn0 w w' := by
 have H : ((stringslite_CutPrefix.f a0 a1).bind fun bt163 => (some (bt163.1, bt163.2))) = some (r1, r2) := h
 clear h
 replace H := Option.bind_eq_some_iff.mp H
 obtain ⟨⟨t163, t164⟩, A30, H⟩ := H
 replace H : (some (t163, t164)) = some (r1, r2) := H
 have A3 := Aside0.mk A30
 clear A30
 simp only [Option.some.injEq, Prod.mk.injEq] at H
 obtain ⟨rfl, rfl⟩ := H
 go_enter Tryz.func79, Tryz.ntmps79
 go_wp2_with (first | ((with_reducible refine gate_callee (f := 101) rfl ?_); refine goesL_ (some 8) rfl rfl Tryz.func101 (by kernel_rfl) rfl #[.string a0, .string a1] rfl (by (try simp only [List.map_toArray, List.map_cons, List.map_nil]); first | done | rfl | (simp only [List.length_drop, List.length_take]; rfl)) ?_; (with_reducible refine (stringslite_CutPrefix.calls a0 a1 t163 t164 _ A3.out).mono ?_); rintro e w' ⟨rfl, ⟨nd, rfl⟩⟩; refine ⟨_, rfl, ?_⟩))
 go_ret2
 exact ⟨by first | rfl | (simp; done) | (simp [*]; done) | (simp; exact (fun l : List UInt8 => (by cases l <;> rfl : l.isEmpty = !(l != []))) _), by repeat (first | exact Drawn0.refl _ | apply Drawn0.step)⟩

end Go.Proofs.YtndgaeldndgioaaGreatDoor.QAll
end

section
/- script.set, walked by hand: an event's block, one part of it set by its word. -/
set_option linter.unusedVariables false
set_option linter.unusedSimpArgs false
namespace Go.Proofs.YtndgaeldndgioaaGreatDoor.QAll
open Go.RowKit Go.Proofs.YtndgaeldndgioaaGreatDoorW.PrintWords Go.Proofs.YtndgaeldndgioaaGreatDoorW.PrintLast Go.Proofs.YtndgaeldndgioaaGreatDoorW.PrintMore
open Go.Proofs.YtndgaeldndgioaaGreatDoor.Fl

/-- The event's block g, its draws a row of the call's own (base B, not in block g), and what else is there. -/
def EB (T : Nat × Obj) (B g : Nat) (e : Ev) (W : World) : Prop :=
  ∃ v, Kd.R (Kd.int .u8) 5 W B (fun i => i ≠ g ∧ i ≠ T.1) v e.d ∧ W.heap[g]? = some (.cells #[.int .i64 e.k, .int .i64 e.a, .int .i64 e.b, .int .i64 e.n, .int .i64 e.m, .string e.s, .complex .f64 (fl e.x) (fl e.y), v] 26 (0, 0)) ∧ B ≤ g ∧ W.heap[T.1]? = some T.2 ∧ g < T.1
/-- Behind a call that may write the event's block and its draws alone: what is below B stays. -/
theorem EB_below {T : Nat × Obj} {B g : Nat} {e : Ev} {W W' : World} (h : EB T B g e W) (hb : Below W.heap.size W W') : EB T B g e W' := by
  obtain ⟨v, h1, h2, h3⟩ := h
  exact ⟨v, Kd.R_below h1 hb, (hb.block _ (lt_of_some h2)).trans h2, h3.1, (hb.block _ (lt_of_some h3.2.1)).trans h3.2.1, h3.2.2⟩
theorem EB_le {T : Nat × Obj} {B g : Nat} {e : Ev} {W : World} (h : EB T B g e W) : B ≤ W.heap.size := by
  obtain ⟨_, _, h2, h3, _⟩ := h
  have := lt_of_some h2
  omega
theorem EB_leg {T : Nat × Obj} {B g : Nat} {e : Ev} {W : World} (h : EB T B g e W) : B ≤ g := by
  obtain ⟨_, _, _, h3, _⟩ := h
  exact h3
theorem EB_k3 {T : Nat × Obj} {B g : Nat} {W : World} (h : B ≤ g ∧ W.heap[T.1]? = some T.2 ∧ g < T.1) (j : Nat) (u : Value) : B ≤ g ∧ (W.setCell ⟨g, j, none⟩ u).heap[T.1]? = some T.2 ∧ g < T.1 := by
  refine ⟨h.1, ?_, h.2.2⟩
  have := h.2.2
  have hne : ¬ g = T.1 := by omega
  simp [World.setCell, Array.getElem?_modify, hne, h.2.1]
theorem EB_setS {T : Nat × Obj} {B g : Nat} {e : Ev} {W : World} (h : EB T B g e W) (t : ByteArray) : EB T B g { e with s := t } (W.setCell ⟨g, 5, none⟩ (.string t)) := by
  obtain ⟨v, h1, h2, h3⟩ := h
  exact ⟨v, Kd.R_far h1 (p := ⟨g, 5, none⟩) (fun k hk => hk.1) _, by simp [World.setCell, Array.getElem?_modify, h2], EB_k3 h3 _ _⟩
theorem EB_cells {T : Nat × Obj} {B g : Nat} {e : Ev} {W : World} (h : EB T B g e W) : ∃ v, (W.cell? ⟨g, 0, none⟩ = some (.int .i64 e.k) ∧ W.cell? ⟨g, 5, none⟩ = some (.string e.s) ∧ W.cell? ⟨g, 6, none⟩ = some (.complex .f64 (fl e.x) (fl e.y)) ∧ W.cell? ⟨g, 7, none⟩ = some v) ∧ ∀ i, W.frozen? ⟨g, i, none⟩ = false := by
  obtain ⟨v, h1, h2, h3⟩ := h
  obtain ⟨k0, k1, k2, k3, k4, k5, k6, k7⟩ := cells8 h2
  exact ⟨v, ⟨k0, k5, k6, k7⟩, fun i => Lib.frozen_of_heap h2 i⟩
set_option maxHeartbeats 8000000 in
set_option maxRecDepth 100000 in
theorem set_S {T : Nat × Obj} (B g : Nat) (e : Ev) (wd : ByteArray) (K : Nat) (t1 : ByteArray) (t2 : Bool) (t0 : ByteArray) (pf : Bool) (w : World) (hB : EB T B g e w) (h0 : strings_TrimPrefix.f wd ⟨#[61]⟩ = some t0) (h1 : script_texts.f K t0 = some (t1, t2)) (h2 : strings_HasPrefix.f wd ⟨#[61]⟩ = some pf) :
    Calls Tryz.prog 51 #[.pointer (some ⟨g, 0, none⟩), .int .i32 83, .string wd] w fun r w' => r = .returned (.bool (t2 && pf)) ∧ EB T B g { e with s := t1 } w' ∧ Below B w w' := by
  have HE := Aside0.mk hB
  have H0 := Aside0.mk h0
  have H1 := Aside0.mk h1
  have H2 := Aside0.mk h2
  clear hB h0 h1 h2
  go_enter Tryz.func51, Tryz.ntmps51
  go_wp2_with (fail)
  (with_reducible refine (strings_TrimPrefix.calls wd ⟨#[61]⟩ t0 _ H0.out).mono ?_)
  rintro r w1 ⟨rfl, hd1⟩
  have HE1 := Aside0.mk (EB_below HE.out hd1.below)
  have HB1 := Aside0.mk (hd1.below.mono (EB_le HE.out))
  clear hd1
  go_wp2_with (fail)
  (with_reducible refine (script_texts.calls K t0 t1 t2 _ H1.out).mono ?_)
  rintro r w2 ⟨rfl, hb2⟩
  have HE2 := Aside0.mk (EB_below HE1.out hb2)
  have HB2 := Aside0.mk (HB1.out.trans (hb2.mono (EB_le HE1.out)))
  clear hb2
  obtain ⟨v, ⟨k0, k5, k6, k7⟩, kf⟩ := EB_cells HE2.out
  have f5 := kf 5
  clear kf
  cases t2 with
  | true =>
    go_wp2_with (first | (go_at_call 78; (with_reducible refine (strings_HasPrefix.calls wd ⟨#[61]⟩ pf _ H2.out).mono ?_); rintro r w3 ⟨rfl, ⟨nd, rfl⟩⟩))
    go_ret
    exact ⟨by simp, EB_setS HE2.out t1, by repeat (first | (with_reducible first | exact HB2.out.setCell (p := ⟨g, 5, none⟩) (EB_leg HE.out) _ | apply pw_below_drewN) | exact HB2.out.setCell (p := ⟨g, 5, none⟩) (EB_leg HE.out) _)⟩
  | false =>
    go_wp2_with (fail)
    go_ret
    exact ⟨by simp, EB_setS HE2.out t1, by repeat (first | (with_reducible first | exact HB2.out.setCell (p := ⟨g, 5, none⟩) (EB_leg HE.out) _ | apply pw_below_drewN) | exact HB2.out.setCell (p := ⟨g, 5, none⟩) (EB_leg HE.out) _)⟩
end Go.Proofs.YtndgaeldndgioaaGreatDoor.QAll
end

section
/- strconv.Atoi of any text: the number, and no error; or an error. -/
set_option linter.unusedVariables false
set_option linter.unusedSimpArgs false
namespace Go.Proofs.YtndgaeldndgioaaGreatDoor.QAll
open Go.RowKit Go.Proofs.YtndgaeldndgioaaGreatDoorW.PrintWords Go.Proofs.YtndgaeldndgioaaGreatDoorW.PrintLast Go.Proofs.YtndgaeldndgioaaGreatDoorW.PrintMore
/-- The number that a text is, if it is one. -/
def atoiV (s : ByteArray) : Option Int := match Lib.atoiAll s.data.toList with
  | .ok v => some v
  | _ => none
theorem atoi_any (s : ByteArray) (hs : s.size ≤ 1000000) (w : World) (hE : EnvW w) :
    Calls Tryz.prog 69 #[.string s] w fun e w' => Below w.heap.size w w' ∧ match atoiV s with
      | some v => e = .returned (.tuple #[.int .i64 v, .nilIface])
      | none => ∃ v N, e = .returned (.tuple #[.int .i64 v, .iface 212 (.pointer (some ⟨N, 0, none⟩))]) := by
  unfold atoiV
  by_cases h : ∃ v, Lib.atoiAll s.data.toList = .ok v
  · obtain ⟨v, hv⟩ := h
    rw [hv]
    refine (Tryz.strconv_Atoi_ok s (by omega) v hv w).mono ?_
    rintro e w' ⟨rfl, h⟩
    refine ⟨?_, rfl⟩
    rcases h with rfl | ⟨t, rfl⟩
    · exact Below.refl _ _
    · exact bytes_below (Below.refl _ _) (Nat.le_refl _) _ _
  · have h1 : ∀ v, Lib.atoiAll s.data.toList ≠ .ok v := fun v e => h ⟨v, e⟩
    have hn : (match Lib.atoiAll s.data.toList with
      | .ok v => some v
      | _ => (none : Option Int)) = none := by
      cases e : Lib.atoiAll s.data.toList <;> first | rfl | exact absurd e (h1 _)
    rw [hn]
    by_cases h2 : Lib.atoiAll s.data.toList = .range
    · obtain ⟨ev, he1, he2⟩ := hE.rng
      refine (Tryz.strconv_Atoi_range s (by omega) h2 ev w he1 he2).mono ?_
      rintro e w' ⟨N, rfl, _, _, hb⟩
      exact ⟨hb, _, N, rfl⟩
    · obtain ⟨ev, he1, he2⟩ := hE.syn
      refine (Tryz.strconv_Atoi_bad s (by omega) h1 h2 ev w he1 he2).mono ?_
      rintro e w' ⟨N, rfl, _, _, hb⟩
      exact ⟨hb, _, N, rfl⟩
end Go.Proofs.YtndgaeldndgioaaGreatDoor.QAll
end

section
/- script.set of a number, walked by hand. -/
set_option linter.unusedVariables false
set_option linter.unusedSimpArgs false
namespace Go.Proofs.YtndgaeldndgioaaGreatDoor.QAll
open Go.RowKit Go.Proofs.YtndgaeldndgioaaGreatDoorW.PrintWords Go.Proofs.YtndgaeldndgioaaGreatDoorW.PrintLast Go.Proofs.YtndgaeldndgioaaGreatDoorW.PrintMore
open Go.Proofs.YtndgaeldndgioaaGreatDoor.Fl

theorem EB_setA {T : Nat × Obj} {B g : Nat} {e : Ev} {W : World} (h : EB T B g e W) (t : Int) : EB T B g { e with a := t } (W.setCell ⟨g, 1, none⟩ (.int .i64 t)) := by
  obtain ⟨v, h1, h2, h3⟩ := h
  exact ⟨v, Kd.R_far h1 (p := ⟨g, 1, none⟩) (fun k hk => hk.1) _, by simp [World.setCell, Array.getElem?_modify, h2], EB_k3 h3 _ _⟩
set_option maxHeartbeats 8000000 in
set_option maxRecDepth 100000 in
theorem set_A {T : Nat × Obj} (B g : Nat) (e : Ev) (wd : ByteArray) (v : Int) (w : World) (hE : EnvW w) (hB : EB T B g e w) (hs : wd.size ≤ 1000000) (h : atoiV wd = some v) (h0 : -9999 ≤ v) (h1 : v ≤ 9999) :
    Calls Tryz.prog 51 #[.pointer (some ⟨g, 0, none⟩), .int .i32 65, .string wd] w fun r w' => r = .returned (.bool true) ∧ EB T B g { e with a := v } w' ∧ Below B w w' := by
  have HE := Aside0.mk hB
  have HN := Aside0.mk hE
  have HA := Aside0.mk h
  clear hB hE h
  have p1 : decide (v < -9999) = false := decide_eq_false (by omega)
  have p2 : decide (v > 9999) = false := decide_eq_false (by omega)
  have hcall := fun W => number_calls g 65 W
  rw [show offI 65 = 1 from rfl] at hcall
  go_enter Tryz.func51, Tryz.ntmps51
  go_wp2_with (fail)
  (with_reducible refine (atoi_any wd hs _ HN.out).mono ?_)
  rintro r w1 ⟨hb1, hr⟩
  rw [HA.out] at hr
  subst hr
  have HE1 := Aside0.mk (EB_below HE.out hb1)
  have HB1 := Aside0.mk (hb1.mono (EB_le HE.out))
  clear hb1
  obtain ⟨q0, q1, q2, q3⟩ := HE1.out
  have hcl := cells8 q2
  obtain ⟨k0, k1, k2, k3, k4, k5, k6, k7⟩ := hcl
  have f5 := Lib.frozen_of_heap q2 1
  clear q1 q2 q3
  go_wp2_with (first | (go_at_call 81; (with_reducible refine (hcall _).mono ?_); rintro r w3 ⟨rfl, ⟨nd, rfl⟩⟩))
  all_goals (go_ret; exact ⟨rfl, EB_setA (show EB T B g e (w1.drewN nd) from HE1.out) v, Below.setCell (show Below B w (w1.drewN nd) from pw_below_drewN HB1.out nd) (p := ⟨g, 1, none⟩) (EB_leg HE.out) _⟩)

theorem EB_setB {T : Nat × Obj} {B g : Nat} {e : Ev} {W : World} (h : EB T B g e W) (t : Int) : EB T B g { e with b := t } (W.setCell ⟨g, 2, none⟩ (.int .i64 t)) := by
  obtain ⟨v, h1, h2, h3⟩ := h
  exact ⟨v, Kd.R_far h1 (p := ⟨g, 2, none⟩) (fun k hk => hk.1) _, by simp [World.setCell, Array.getElem?_modify, h2], EB_k3 h3 _ _⟩
set_option maxHeartbeats 8000000 in
set_option maxRecDepth 100000 in
theorem set_B {T : Nat × Obj} (B g : Nat) (e : Ev) (wd : ByteArray) (v : Int) (w : World) (hE : EnvW w) (hB : EB T B g e w) (hs : wd.size ≤ 1000000) (h : atoiV wd = some v) (h0 : -9999 ≤ v) (h1 : v ≤ 9999) :
    Calls Tryz.prog 51 #[.pointer (some ⟨g, 0, none⟩), .int .i32 66, .string wd] w fun r w' => r = .returned (.bool true) ∧ EB T B g { e with b := v } w' ∧ Below B w w' := by
  have HE := Aside0.mk hB
  have HN := Aside0.mk hE
  have HA := Aside0.mk h
  clear hB hE h
  have p1 : decide (v < -9999) = false := decide_eq_false (by omega)
  have p2 : decide (v > 9999) = false := decide_eq_false (by omega)
  have hcall := fun W => number_calls g 66 W
  rw [show offI 66 = 2 from rfl] at hcall
  go_enter Tryz.func51, Tryz.ntmps51
  go_wp2_with (fail)
  (with_reducible refine (atoi_any wd hs _ HN.out).mono ?_)
  rintro r w1 ⟨hb1, hr⟩
  rw [HA.out] at hr
  subst hr
  have HE1 := Aside0.mk (EB_below HE.out hb1)
  have HB1 := Aside0.mk (hb1.mono (EB_le HE.out))
  clear hb1
  obtain ⟨q0, q1, q2, q3⟩ := HE1.out
  have hcl := cells8 q2
  obtain ⟨k0, k1, k2, k3, k4, k5, k6, k7⟩ := hcl
  have f5 := Lib.frozen_of_heap q2 2
  clear q1 q2 q3
  go_wp2_with (first | (go_at_call 81; (with_reducible refine (hcall _).mono ?_); rintro r w3 ⟨rfl, ⟨nd, rfl⟩⟩))
  all_goals (go_ret; exact ⟨rfl, EB_setB (show EB T B g e (w1.drewN nd) from HE1.out) v, Below.setCell (show Below B w (w1.drewN nd) from pw_below_drewN HB1.out nd) (p := ⟨g, 2, none⟩) (EB_leg HE.out) _⟩)

theorem EB_setN {T : Nat × Obj} {B g : Nat} {e : Ev} {W : World} (h : EB T B g e W) (t : Int) : EB T B g { e with n := t } (W.setCell ⟨g, 3, none⟩ (.int .i64 t)) := by
  obtain ⟨v, h1, h2, h3⟩ := h
  exact ⟨v, Kd.R_far h1 (p := ⟨g, 3, none⟩) (fun k hk => hk.1) _, by simp [World.setCell, Array.getElem?_modify, h2], EB_k3 h3 _ _⟩
set_option maxHeartbeats 8000000 in
set_option maxRecDepth 100000 in
theorem set_N {T : Nat × Obj} (B g : Nat) (e : Ev) (wd : ByteArray) (v : Int) (w : World) (hE : EnvW w) (hB : EB T B g e w) (hs : wd.size ≤ 1000000) (h : atoiV wd = some v) (h0 : -9999 ≤ v) (h1 : v ≤ 9999) :
    Calls Tryz.prog 51 #[.pointer (some ⟨g, 0, none⟩), .int .i32 78, .string wd] w fun r w' => r = .returned (.bool true) ∧ EB T B g { e with n := v } w' ∧ Below B w w' := by
  have HE := Aside0.mk hB
  have HN := Aside0.mk hE
  have HA := Aside0.mk h
  clear hB hE h
  have p1 : decide (v < -9999) = false := decide_eq_false (by omega)
  have p2 : decide (v > 9999) = false := decide_eq_false (by omega)
  have hcall := fun W => number_calls g 78 W
  rw [show offI 78 = 3 from rfl] at hcall
  go_enter Tryz.func51, Tryz.ntmps51
  go_wp2_with (fail)
  (with_reducible refine (atoi_any wd hs _ HN.out).mono ?_)
  rintro r w1 ⟨hb1, hr⟩
  rw [HA.out] at hr
  subst hr
  have HE1 := Aside0.mk (EB_below HE.out hb1)
  have HB1 := Aside0.mk (hb1.mono (EB_le HE.out))
  clear hb1
  obtain ⟨q0, q1, q2, q3⟩ := HE1.out
  have hcl := cells8 q2
  obtain ⟨k0, k1, k2, k3, k4, k5, k6, k7⟩ := hcl
  have f5 := Lib.frozen_of_heap q2 3
  clear q1 q2 q3
  go_wp2_with (first | (go_at_call 81; (with_reducible refine (hcall _).mono ?_); rintro r w3 ⟨rfl, ⟨nd, rfl⟩⟩))
  all_goals (go_ret; exact ⟨rfl, EB_setN (show EB T B g e (w1.drewN nd) from HE1.out) v, Below.setCell (show Below B w (w1.drewN nd) from pw_below_drewN HB1.out nd) (p := ⟨g, 3, none⟩) (EB_leg HE.out) _⟩)

theorem EB_setM {T : Nat × Obj} {B g : Nat} {e : Ev} {W : World} (h : EB T B g e W) (t : Int) : EB T B g { e with m := t } (W.setCell ⟨g, 4, none⟩ (.int .i64 t)) := by
  obtain ⟨v, h1, h2, h3⟩ := h
  exact ⟨v, Kd.R_far h1 (p := ⟨g, 4, none⟩) (fun k hk => hk.1) _, by simp [World.setCell, Array.getElem?_modify, h2], EB_k3 h3 _ _⟩
set_option maxHeartbeats 8000000 in
set_option maxRecDepth 100000 in
theorem set_M {T : Nat × Obj} (B g : Nat) (e : Ev) (wd : ByteArray) (v : Int) (w : World) (hE : EnvW w) (hB : EB T B g e w) (hs : wd.size ≤ 1000000) (h : atoiV wd = some v) (h0 : -9999 ≤ v) (h1 : v ≤ 9999) :
    Calls Tryz.prog 51 #[.pointer (some ⟨g, 0, none⟩), .int .i32 77, .string wd] w fun r w' => r = .returned (.bool true) ∧ EB T B g { e with m := v } w' ∧ Below B w w' := by
  have HE := Aside0.mk hB
  have HN := Aside0.mk hE
  have HA := Aside0.mk h
  clear hB hE h
  have p1 : decide (v < -9999) = false := decide_eq_false (by omega)
  have p2 : decide (v > 9999) = false := decide_eq_false (by omega)
  have hcall := fun W => number_calls g 77 W
  rw [show offI 77 = 4 from rfl] at hcall
  go_enter Tryz.func51, Tryz.ntmps51
  go_wp2_with (fail)
  (with_reducible refine (atoi_any wd hs _ HN.out).mono ?_)
  rintro r w1 ⟨hb1, hr⟩
  rw [HA.out] at hr
  subst hr
  have HE1 := Aside0.mk (EB_below HE.out hb1)
  have HB1 := Aside0.mk (hb1.mono (EB_le HE.out))
  clear hb1
  obtain ⟨q0, q1, q2, q3⟩ := HE1.out
  have hcl := cells8 q2
  obtain ⟨k0, k1, k2, k3, k4, k5, k6, k7⟩ := hcl
  have f5 := Lib.frozen_of_heap q2 4
  clear q1 q2 q3
  go_wp2_with (first | (go_at_call 81; (with_reducible refine (hcall _).mono ?_); rintro r w3 ⟨rfl, ⟨nd, rfl⟩⟩))
  all_goals (go_ret; exact ⟨rfl, EB_setM (show EB T B g e (w1.drewN nd) from HE1.out) v, Below.setCell (show Below B w (w1.drewN nd) from pw_below_drewN HB1.out nd) (p := ⟨g, 4, none⟩) (EB_leg HE.out) _⟩)

end Go.Proofs.YtndgaeldndgioaaGreatDoor.QAll
end

section
/- script.set of a part of Z, and of what is no number, walked by hand. -/
set_option linter.unusedVariables false
set_option linter.unusedSimpArgs false
namespace Go.Proofs.YtndgaeldndgioaaGreatDoor.QAll
open Go.RowKit Go.Proofs.YtndgaeldndgioaaGreatDoorW.PrintWords Go.Proofs.YtndgaeldndgioaaGreatDoorW.PrintLast Go.Proofs.YtndgaeldndgioaaGreatDoorW.PrintMore
open Go.Proofs.YtndgaeldndgioaaGreatDoor.Fl
theorem run_store_complex (P : Program) (w : World) (a : Addr) (k : FloatKind) (x y : Nat) (m : Mode) : (store a (.complex k x y) m).run P w = stored P w a (.complex k x y) m := run_store P w a _ m rfl
attribute [local go_sem] run_store_complex

theorem EB_setX {T : Nat × Obj} {B g : Nat} {e : Ev} {W : World} (h : EB T B g e W) (t : Int) : EB T B g { e with x := t } (W.setCell ⟨g, 6, none⟩ (.complex .f64 (fl t) (fl e.y))) := by
  obtain ⟨v, h1, h2, h3⟩ := h
  exact ⟨v, Kd.R_far h1 (p := ⟨g, 6, none⟩) (fun k hk => hk.1) _, by simp [World.setCell, Array.getElem?_modify, h2], EB_k3 h3 _ _⟩
set_option maxHeartbeats 8000000 in
set_option maxRecDepth 100000 in
theorem set_X {T : Nat × Obj} (B g : Nat) (e : Ev) (wd : ByteArray) (v : Int) (w : World) (hE : EnvW w) (hB : EB T B g e w) (hs : wd.size ≤ 1000000) (h : atoiV wd = some v) (h0 : -9999 ≤ v) (h1 : v ≤ 9999) :
    Calls Tryz.prog 51 #[.pointer (some ⟨g, 0, none⟩), .int .i32 88, .string wd] w fun r w' => r = .returned (.bool true) ∧ EB T B g { e with x := v } w' ∧ Below B w w' := by
  have HE := Aside0.mk hB
  have HN := Aside0.mk hE
  have HA := Aside0.mk h
  clear hB hE h
  have p1 : decide (v < -9999) = false := decide_eq_false (by omega)
  have p2 : decide (v > 9999) = false := decide_eq_false (by omega)
  go_enter Tryz.func51, Tryz.ntmps51
  go_wp2_with (fail)
  (with_reducible refine (atoi_any wd hs _ HN.out).mono ?_)
  rintro r w1 ⟨hb1, hr⟩
  rw [HA.out] at hr
  subst hr
  have HE1 := Aside0.mk (EB_below HE.out hb1)
  have HB1 := Aside0.mk (hb1.mono (EB_le HE.out))
  clear hb1
  obtain ⟨q0, q1, q2, q3⟩ := HE1.out
  obtain ⟨k0, k1, k2, k3, k4, k5, k6, k7⟩ := cells8 q2
  have f6 := Lib.frozen_of_heap q2 6
  clear q1 q2 q3
  go_wp2_with (fail)
  all_goals (try (go_region_with (fail)))
  all_goals (try go_wp2)
  all_goals first
    | (go_ret; exact ⟨rfl, EB_setX (e := e) HE1.out v, by repeat (first | (with_reducible first | exact Below.setCell HB1.out (p := ⟨g, 6, none⟩) (EB_leg HE.out) _ | apply pw_below_drewN | apply below_drew1) | exact Below.setCell HB1.out (p := ⟨g, 6, none⟩) (EB_leg HE.out) _)⟩)
    | trace_state

theorem EB_setY {T : Nat × Obj} {B g : Nat} {e : Ev} {W : World} (h : EB T B g e W) (t : Int) : EB T B g { e with y := t } (W.setCell ⟨g, 6, none⟩ (.complex .f64 (fl e.x) (fl t))) := by
  obtain ⟨v, h1, h2, h3⟩ := h
  exact ⟨v, Kd.R_far h1 (p := ⟨g, 6, none⟩) (fun k hk => hk.1) _, by simp [World.setCell, Array.getElem?_modify, h2], EB_k3 h3 _ _⟩
set_option maxHeartbeats 8000000 in
set_option maxRecDepth 100000 in
theorem set_Y {T : Nat × Obj} (B g : Nat) (e : Ev) (wd : ByteArray) (v : Int) (w : World) (hE : EnvW w) (hB : EB T B g e w) (hs : wd.size ≤ 1000000) (h : atoiV wd = some v) (h0 : -9999 ≤ v) (h1 : v ≤ 9999) :
    Calls Tryz.prog 51 #[.pointer (some ⟨g, 0, none⟩), .int .i32 89, .string wd] w fun r w' => r = .returned (.bool true) ∧ EB T B g { e with y := v } w' ∧ Below B w w' := by
  have HE := Aside0.mk hB
  have HN := Aside0.mk hE
  have HA := Aside0.mk h
  clear hB hE h
  have p1 : decide (v < -9999) = false := decide_eq_false (by omega)
  have p2 : decide (v > 9999) = false := decide_eq_false (by omega)
  go_enter Tryz.func51, Tryz.ntmps51
  go_wp2_with (fail)
  (with_reducible refine (atoi_any wd hs _ HN.out).mono ?_)
  rintro r w1 ⟨hb1, hr⟩
  rw [HA.out] at hr
  subst hr
  have HE1 := Aside0.mk (EB_below HE.out hb1)
  have HB1 := Aside0.mk (hb1.mono (EB_le HE.out))
  clear hb1
  obtain ⟨q0, q1, q2, q3⟩ := HE1.out
  obtain ⟨k0, k1, k2, k3, k4, k5, k6, k7⟩ := cells8 q2
  have f6 := Lib.frozen_of_heap q2 6
  clear q1 q2 q3
  go_wp2_with (fail)
  all_goals (try (go_region_with (fail)))
  all_goals (try go_wp2)
  all_goals first
    | (go_ret; exact ⟨rfl, EB_setY (e := e) HE1.out v, by repeat (first | (with_reducible first | exact Below.setCell HB1.out (p := ⟨g, 6, none⟩) (EB_leg HE.out) _ | apply pw_below_drewN | apply below_drew1) | exact Below.setCell HB1.out (p := ⟨g, 6, none⟩) (EB_leg HE.out) _)⟩)
    | trace_state

set_option maxHeartbeats 8000000 in
set_option maxRecDepth 100000 in
/-- No number: nothing is set. -/
theorem set_none {T : Nat × Obj} (B g : Nat) (e : Ev) (c : Int) (wd : ByteArray) (w : World) (hE : EnvW w) (hB : EB T B g e w) (hc1 : c ≠ 83) (hc2 : c ≠ 68) (hs : wd.size ≤ 1000000) (h : atoiV wd = none) :
    Calls Tryz.prog 51 #[.pointer (some ⟨g, 0, none⟩), .int .i32 c, .string wd] w fun r w' => r = .returned (.bool false) ∧ EB T B g e w' ∧ Below B w w' := by
  have e1 : (c == 83) = false := beq_false_of_ne hc1
  have e2 : (c == 68) = false := beq_false_of_ne hc2
  have HE := Aside0.mk hB
  have HN := Aside0.mk hE
  have HA := Aside0.mk h
  clear hB hE h
  go_enter Tryz.func51, Tryz.ntmps51
  go_wp2_with (fail)
  (with_reducible refine (atoi_any wd hs _ HN.out).mono ?_)
  rintro r w1 ⟨hb1, hr⟩
  rw [HA.out] at hr
  obtain ⟨v, N, rfl⟩ := hr
  have HE1 := Aside0.mk (EB_below HE.out hb1)
  have HB1 := Aside0.mk (hb1.mono (EB_le HE.out))
  clear hb1
  go_wp2_with (fail)
  go_ret
  exact ⟨rfl, HE1.out, HB1.out⟩
set_option maxHeartbeats 8000000 in
set_option maxRecDepth 100000 in
/-- A number that is too great, or too small: nothing is set. -/
theorem set_out {T : Nat × Obj} (B g : Nat) (e : Ev) (c : Int) (wd : ByteArray) (v : Int) (w : World) (hE : EnvW w) (hB : EB T B g e w) (hc1 : c ≠ 83) (hc2 : c ≠ 68) (hs : wd.size ≤ 1000000) (h : atoiV wd = some v) (hv : ¬(-9999 ≤ v ∧ v ≤ 9999)) :
    Calls Tryz.prog 51 #[.pointer (some ⟨g, 0, none⟩), .int .i32 c, .string wd] w fun r w' => r = .returned (.bool false) ∧ EB T B g e w' ∧ Below B w w' := by
  have e1 : (c == 83) = false := beq_false_of_ne hc1
  have e2 : (c == 68) = false := beq_false_of_ne hc2
  have HE := Aside0.mk hB
  have HN := Aside0.mk hE
  have HA := Aside0.mk h
  clear hB hE h
  go_enter Tryz.func51, Tryz.ntmps51
  go_wp2_with (fail)
  (with_reducible refine (atoi_any wd hs _ HN.out).mono ?_)
  rintro r w1 ⟨hb1, hr⟩
  rw [HA.out] at hr
  subst hr
  have HE1 := Aside0.mk (EB_below HE.out hb1)
  have HB1 := Aside0.mk (hb1.mono (EB_le HE.out))
  clear hb1
  by_cases p : v < -9999
  · have p1 : decide (v < -9999) = true := decide_eq_true p
    go_wp2_with (fail)
    go_ret
    exact ⟨rfl, HE1.out, HB1.out⟩
  · have p1 : decide (v < -9999) = false := decide_eq_false p
    have p2 : decide (v > 9999) = true := decide_eq_true (by omega)
    go_wp2_with (fail)
    go_ret
    exact ⟨rfl, HE1.out, HB1.out⟩

end Go.Proofs.YtndgaeldndgioaaGreatDoor.QAll
end

section
/- script.set of a tick's draws, walked by hand. -/
set_option linter.unusedVariables false
set_option linter.unusedSimpArgs false
namespace Go.Proofs.YtndgaeldndgioaaGreatDoor.QAll
open Go.RowKit Go.Proofs.YtndgaeldndgioaaGreatDoorW.PrintWords Go.Proofs.YtndgaeldndgioaaGreatDoorW.PrintLast Go.Proofs.YtndgaeldndgioaaGreatDoorW.PrintMore
open Go.Proofs.YtndgaeldndgioaaGreatDoor.Fl
/-- The bytes of a word's digits, behind those that are there; and whether all were digits. -/
def drawsL : Nat → ByteArray → List Int → Option (List Int × Bool)
  | 0, _, _ => none
  | k + 1, s, acc => if s.size = 0 then some (acc, true) else (script_value.f (s.extract 0 2)).bind fun p => if p.2 = true then drawsL k (s.extract 2 s.size) (acc ++ [p.1]) else some (acc, false)
set_option maxHeartbeats 8000000 in
set_option maxRecDepth 100000 in
theorem set_D {T : Nat × Obj} (B g : Nat) (e : Ev) (wd s1 : ByteArray) (K : Nat) (d' : List Int) (ok : Bool) (w : World) (hB : EB T B g e w) (h : strings_CutPrefix.f wd ⟨#[35]⟩ = some (s1, true)) (he : s1.size % 2 = 0) (hs : s1.size ≤ 100000) (hl : e.d.length ≤ 100000) (hD : drawsL K s1 e.d = some (d', ok)) :
    Calls Tryz.prog 51 #[.pointer (some ⟨g, 0, none⟩), .int .i32 68, .string wd] w fun r w' => r = .returned (.bool ok) ∧ EB T B g { e with d := d' } w' ∧ Below B w w' := by
  have HE := Aside0.mk hB
  have HA := Aside0.mk h
  have HD := Aside0.mk hD
  clear hB h hD
  have hm : Int.tmod (s1.size : Int) 2 = 0 := by rw [Int.tmod_eq_emod_of_nonneg (by omega)]; omega
  go_enter Tryz.func51, Tryz.ntmps51
  go_wp2_with (fail)
  (with_reducible refine (strings_CutPrefix.calls wd ⟨#[35]⟩ s1 true _ HA.out).mono ?_)
  rintro r w1 ⟨rfl, hd1⟩
  have HE1 := Aside0.mk (EB_below HE.out hd1.below)
  have HB1 := Aside0.mk (hd1.below.mono (EB_le HE.out))
  clear hd1
  go_wp2_with (fail)
  clear hm
  go_loopg [9] K (fun kq v9 wr => ∃ (s9 : ByteArray) (acc : List Int), v9 = .string s9 ∧ s9.size % 2 = 0 ∧ s9.size ≤ 100000 ∧ acc.length + s9.size ≤ 200000 ∧ Aside0 (drawsL kq s9 acc = some (d', ok)) ∧ Aside0 (kq ≤ K) ∧ Aside0 (EB T B g { e with d := acc } wr) ∧ Aside0 (Below B w wr))
  case atStart => exact ⟨s1, e.d, rfl, he, hs, by omega, HD, ⟨Nat.le_refl _⟩, HE1, HB1⟩
  case round =>
    obtain ⟨s9, acc, rfl, he9, hs9, hl9, HD9, HK9, HE9, HB9⟩ := hrel
    clear HD HE1 HB1
    cases gk with
    | zero => exact absurd HD9.out (by simp [drawsL])
    | succ k1 =>
      have hd := HD9.out
      clear HD9
      rw [drawsL] at hd
      by_cases hz : s9.size = 0
      · rw [if_pos hz] at hd
        obtain ⟨rfl, rfl⟩ := Prod.mk.inj (Option.some.inj hd)
        have hne : s9.toList.isEmpty = true := by
          rw [Go.ByteArray.toList_eq]
          have : s9.data.toList.length = 0 := by simpa using hz
          rw [List.length_eq_zero_iff.1 this]
          rfl
        go_wp2_with (fail)
        go_ret
        exact ⟨rfl, HE9.out, HB9.out⟩
      · rw [if_neg hz] at hd
        obtain ⟨p, hp, hrest⟩ := Option.bind_eq_some_iff.1 hd
        have HP := Aside0.mk hp
        have HRe := Aside0.mk hrest
        clear hp hrest hd
        have hne : s9.toList.isEmpty = false := by
          rw [Go.ByteArray.toList_eq]
          have : s9.data.toList.length = s9.size := by simp
          cases hq : s9.data.toList with
          | nil => rw [hq] at this; exact absurd this.symm hz
          | cons _ _ => rfl
        have h2 : (2 : Int) ≤ (s9.size : Int) := by omega
        go_wp2_with (fail)
        (with_reducible refine (script_value.calls (s9.extract 0 2) p.1 p.2 _ HP.out).mono ?_)
        rintro r w2 ⟨rfl, hd2⟩
        have HE2 := Aside0.mk (EB_below HE9.out hd2.below)
        have HB2 := Aside0.mk (HB9.out.trans (hd2.below.mono (EB_le HE9.out)))
        clear hd2 HE9 HB9
        cases hp2 : p.2 with
        | false =>
          have hre := HRe.out
          rw [hp2, if_neg (by decide)] at hre
          obtain ⟨rfl, rfl⟩ := Prod.mk.inj (Option.some.inj hre)
          clear hre HRe
          go_wp2_with (fail)
          go_ret
          exact ⟨rfl, HE2.out, HB2.out⟩
        | true =>
          have hre := HRe.out
          rw [hp2, if_pos rfl] at hre
          have HRe2 := Aside0.mk hre
          clear hre HRe
          obtain ⟨vd, q1, q2, q3⟩ := HE2.out
          have Q1 := Aside0.mk q1
          have Q2 := Aside0.mk q2
          obtain ⟨k0, k1', k2, k3, k4, k5, k6, k7⟩ := cells8 q2
          clear q1 q2
          go_wp2_with (at_builtin; refine Kd.R_append (Kd.int .u8) (w0 := w) B rfl (.tmp 64) (.tmp 66) 24 5 (.int .u8 0) 1 rfl Tryz.underlying24 info5 rfl (by decide) (by omega) vd acc p.1 [.int .u8 p.1] (fun i => i ≠ g ∧ i ≠ T.1) (fun _ => False) rfl rfl rfl (fun _ hk => hk.elim) (fun i hi => ⟨by have := lt_of_some Q2.out; omega, by have := lt_of_some q3.2.1; omega⟩) Q1.out HB2.out (EB_le HE2.out) (by omega) ?_; intro v1 w5 ho hb hg hat; have X5 := (hg.block g (lt_of_some Q2.out) (fun e => (Q1.out.1 g e.symm).1 rfl)).trans Q2.out; have XT := (hg.block T.1 (lt_of_some q3.2.1) (fun e => (Q1.out.1 T.1 e.symm).2 rfl)).trans q3.2.1; obtain ⟨Ao, co, eo⟩ := Kd.R_slice ho; subst eo; have HO5 := Aside0.mk ho; have HX5 := Aside0.mk X5; have HB5 := Aside0.mk hb; clear ho hb hg hat k0 k1' k2 k3 k4 k5 k6 k7; obtain ⟨k0, k1', k2, k3, k4, k5, k6, k7⟩ := cells8 X5; have f7 := Lib.frozen_of_heap X5 7; clear X5)
          have hsx : (s9.extract 2 s9.size).size = s9.size - 2 := by simp
          go_roundg k1
          case rel => exact ⟨s9.extract 2 s9.size, acc ++ [p.1], rfl, by omega, by omega, by simp; omega, HRe2, ⟨by have := HK9.out; omega⟩, ⟨_, Kd.R_far HO5.out (p := ⟨g, 7, none⟩) (fun k hk => hk.1) _, by simp [World.setCell, Array.getElem?_modify, HX5.out], EB_k3 ⟨q3.1, XT, q3.2.2⟩ _ _⟩, ⟨HB5.out.setCell (p := ⟨g, 7, none⟩) q3.1 _⟩⟩
          case measure => omega
end Go.Proofs.YtndgaeldndgioaaGreatDoor.QAll
end

section
/- Walks, written by a program of this session (wip/pp): a Go function comes to what the Lean function beside it tells. -/
namespace Go.Proofs.YtndgaeldndgioaaGreatDoor.QAll
open Go.RowKit Go.Proofs.YtndgaeldndgioaaGreatDoorW.PrintWords Go.Proofs.YtndgaeldndgioaaGreatDoorW.PrintLast Go.Proofs.YtndgaeldndgioaaGreatDoorW.PrintMore
attribute [local go_sem] max2_int min2_int max_two min_two max_three min_three max_four min_four
set_option linter.unusedVariables false
set_option linter.unusedSimpArgs false

def squelchref30_digit.f (a0 : Int) : Option (Int) := if a0 ≥ 65 then (some (wrap64 ((wrap64 (Int.tmod a0 32)) + 9))) else (some (wrap64 (Int.tmod a0 16)))
end Go.Proofs.YtndgaeldndgioaaGreatDoor.QAll
end

section
/- Walks, written by a program of this session (wip/pp): a Go function comes to what the Lean function beside it tells. -/
namespace Go.Proofs.YtndgaeldndgioaaGreatDoor.QAll
open Go.RowKit Go.Proofs.YtndgaeldndgioaaGreatDoorW.PrintWords Go.Proofs.YtndgaeldndgioaaGreatDoorW.PrintLast Go.Proofs.YtndgaeldndgioaaGreatDoorW.PrintMore
attribute [local go_sem] max2_int min2_int max_two min_two max_three min_three max_four min_four
set_option linter.unusedVariables false
set_option linter.unusedSimpArgs false

mutual
def squelchref30_bytes.l0 : Nat → ByteArray → Bool → List Int → Int → Option (ByteArray)
 | 0, _, _, _, _ => none
 | k + 1, x0, x1, x5, x6 => if x6 < (x0.size : Int) then (if x1 = true then (if 0 ≤ x6 then (squelchref30_bytes.j1 k x0 x1 x5 x6 ((bt x0 x6) != 37)) else (none)) else (squelchref30_bytes.j1 k x0 x1 x5 x6 false)) else (some (strOfNums x5))
def squelchref30_bytes.j1 : Nat → ByteArray → Bool → List Int → Int → Bool → Option (ByteArray)
 | 0, _, _, _, _, _ => none
 | k + 1, x0, x1, x5, x6, x20 => if x20 = true then (if 0 ≤ x6 then (if x6 < (x0.size : Int) then (if x5.length < 140737488355328 then (squelchref30_bytes.l0 k x0 x1 (x5 ++ [bt x0 x6]) (wrap64 (x6 + 1))) else (none)) else (none)) else (none)) else (if x1 = true then (squelchref30_bytes.j2 k x0 x1 x5 (wrap64 (x6 + 1))) else (squelchref30_bytes.j2 k x0 x1 x5 x6))
def squelchref30_bytes.j2 : Nat → ByteArray → Bool → List Int → Int → Option (ByteArray)
 | 0, _, _, _, _ => none
 | k + 1, x0, x1, x5, x6 => if (wrap64 (x6 + 1)) < (x0.size : Int) then (if 0 ≤ x6 then (if x6 < (x0.size : Int) then ((squelchref30_digit.f (bt x0 x6)).bind fun t182 => (if 0 ≤ (wrap64 (x6 + 1)) then ((squelchref30_digit.f (bt x0 (wrap64 (x6 + 1)))).bind fun t183 => (if x5.length < 140737488355328 then (squelchref30_bytes.l0 k x0 x1 (x5 ++ [(wrap64 ((wrap64 (16 * t182)) + t183)) % 256]) (wrap64 ((wrap64 (x6 + 1)) + 1))) else (none))) else (none))) else (none)) else (none)) else (squelchref30_bytes.l0 k x0 x1 x5 (wrap64 ((wrap64 (x6 + 1)) + 1)))
end
def squelchref30_bytes.f (k : Nat) (a0 : ByteArray) (a1 : Bool) : Option (ByteArray) := squelchref30_bytes.l0 k a0 a1 (([] : List Int)) 1
end Go.Proofs.YtndgaeldndgioaaGreatDoor.QAll
end

section
/- Texts as words, and draws as words: what is written is read back, by the program and by the reference. -/
set_option linter.unusedVariables false
set_option linter.unusedSimpArgs false
set_option maxHeartbeats 200000
namespace Go.Proofs.YtndgaeldndgioaaGreatDoor.Pure
open Go.RowKit Go.Proofs.YtndgaeldndgioaaGreatDoor.QAll Go.Proofs.YtndgaeldndgioaaGreatDoorW.PrintWords Go.Proofs.YtndgaeldndgioaaGreatDoorW.PrintLast
theorem value_all : ((List.range 256).all fun a => decide (script_value.f (twoS (a : Int)) = some ((a : Int), true))) = true := by kernel_rfl
theorem value_two (c : Int) (h0 : 0 ≤ c) (h1 : c ≤ 255) : script_value.f (twoS c) = some (c, true) := by
  obtain ⟨a, rfl⟩ := Int.eq_ofNat_of_zero_le h0
  exact of_decide_eq_true (List.all_eq_true.1 value_all a (List.mem_range.2 (by omega)))
theorem bt_list {t : ByteArray} {i : Nat} {c : UInt8} {r : List UInt8} (h : t.toList.drop i = c :: r) : i < t.size ∧ bt t (i : Int) = (c.toNat : Int) ∧ t.toList.drop (i + 1) = r := by
  by_cases hi : i < t.size
  · obtain ⟨c', r', e1, e2, e3⟩ := bt_at t i hi
    rw [h] at e1
    injection e1 with a b
    subst a b
    exact ⟨hi, e3, e2⟩
  · rw [drop_all t i (by omega)] at h
    cases h
theorem two_list (c : Int) (h0 : 0 ≤ c) (h1 : c ≤ 255) : ∃ x y, (twoS c).data.toList = [x, y] ∧ bt (twoS c) 0 = (x.toNat : Int) ∧ bt (twoS c) 1 = (y.toNat : Int) := by
  have hz := two_size c h0 h1
  have hl : (twoS c).data.toList.length = 2 := by rw [← hz]; simp
  match he : (twoS c).data.toList, hl with
  | [x, y], _ =>
    have e : (twoS c).toList.drop 0 = x :: [y] := by rw [Go.ByteArray.toList_eq, he]; rfl
    obtain ⟨_, b0, e1⟩ := bt_list e
    obtain ⟨_, b1, _⟩ := bt_list e1
    exact ⟨x, y, rfl, b0, b1⟩
theorem byte_back (c : Int) (h0 : 0 ≤ c) (h1 : c ≤ 255) : ((UInt8.ofNat c.toNat).toNat : Int) = c := by
  obtain ⟨a, rfl⟩ := Int.eq_ofNat_of_zero_le h0
  have ha : a % 256 = a := Nat.mod_eq_of_lt (by omega)
  simp [ha]
theorem ext_two (t : ByteArray) (i : Nat) (x y : UInt8) (r : List UInt8) (h : t.toList.drop i = x :: y :: r) : (t.extract i (i + 2)).toList = [x, y] := by
  rw [toList_ext, List.drop_take, h, show i + 2 - i = 2 by omega]
  rfl
theorem wrap_lit (i j : Nat) (z : Int) (hz : z = (j : Int)) (h : i + j < 9223372036854775807) : wrap64 ((i : Int) + z) = ((i + j : Nat) : Int) := by subst hz; unfold wrap64; omega
theorem texts_step (t : ByteArray) (hs : t.size ≤ 1000000) (K i : Nat) (acc : List Int) (c : Int) (h0 : 0 ≤ c) (h1 : c ≤ 255) (r : List UInt8) (h : t.toList.drop i = escC c ++ r) (ha : acc.length ≤ 1000000) :
    script_texts.l0 (K + 1) t acc (i : Int) = script_texts.l0 K t (acc ++ [c]) ((i + (escC c).length : Nat) : Int) ∧ t.toList.drop (i + (escC c).length) = r := by
  unfold escC at h ⊢
  by_cases hp : 32 < c ∧ c ≤ 126 ∧ c ≠ 37
  · rw [if_pos hp] at h ⊢
    obtain ⟨hi, hb, hd⟩ := bt_list h
    rw [byte_back c h0 h1] at hb
    refine ⟨?_, hd⟩
    rw [script_texts.l0, if_pos (by omega), if_pos (by omega), hb, if_neg hp.2.2, if_pos (by omega), wrap_lit i 1 1 rfl (by omega)]
    rfl
  · rw [if_neg hp] at h ⊢
    obtain ⟨x, y, hxy, b0, b1⟩ := two_list c h0 h1
    rw [hxy] at h ⊢
    have h' : t.toList.drop i = 37 :: (x :: y :: r) := h
    obtain ⟨hi, hb, hd⟩ := bt_list h'
    obtain ⟨hi1, _, hd1⟩ := bt_list hd
    obtain ⟨hi2, _, hd2⟩ := bt_list hd1
    have hb37 : bt t (i : Int) = 37 := hb
    refine ⟨?_, hd2⟩
    have E1 := Aside0.mk (show wrap64 ((i : Int) + 1) = ((i + 1 : Nat) : Int) from wrap_lit i 1 1 rfl (by omega))
    have E2 := Aside0.mk (show wrap64 ((i : Int) + 2) = ((i + 2 : Nat) : Int) from wrap_lit i 2 2 rfl (by omega))
    have E3 := Aside0.mk (show wrap64 ((i : Int) + 3) = ((i + 3 : Nat) : Int) from wrap_lit i 3 3 rfl (by omega))
    have E4 := Aside0.mk (show wrap64 (((i + 2 : Nat) : Int) + 1) = ((i + 2 + 1 : Nat) : Int) from wrap_lit (i + 2) 1 1 rfl (by omega))
    have ex : t.extract (((i + 1 : Nat) : Int)).toNat (((i + 3 : Nat) : Int)).toNat = twoS c := by
      apply ba_eq
      rw [Int.toNat_natCast, Int.toNat_natCast, ext_two t (i + 1) x y r hd, Go.ByteArray.toList_eq, hxy]
    rw [script_texts.l0, if_pos (by omega), if_pos (by omega), hb37, if_pos rfl, E1.out, E2.out, E3.out, if_neg (by omega), if_pos (by omega), if_pos (by omega), if_pos (by omega), ex, value_two c h0 h1]
    simp only [Option.bind_some]
    rw [if_pos trivial, if_pos (by omega), E4.out]
    rfl
theorem texts_all (t : ByteArray) (hs : t.size ≤ 1000000) : ∀ (bs : List Int) (K i : Nat) (acc : List Int), (∀ b ∈ bs, 0 ≤ b ∧ b ≤ 255) → bs.length + 1 ≤ K → t.toList.drop i = bs.flatMap escC → acc.length + bs.length ≤ 1000000 →
    script_texts.l0 K t acc (i : Int) = some (strOfNums (acc ++ bs), true)
  | _, 0, _, _, _, hK, _, _ => absurd hK (by omega)
  | [], K + 1, i, acc, _, _, h, _ => by
    have hi : t.size ≤ i := by
      have := congrArg List.length h
      rw [List.length_drop, len_eq] at this
      simp at this
      omega
    rw [script_texts.l0, if_neg (by omega), List.append_nil]
  | c :: bs, K + 1, i, acc, hb, hK, h, ha => by
    rw [List.flatMap_cons] at h
    simp only [List.length_cons] at hK ha
    obtain ⟨e, hd⟩ := texts_step t hs K i acc c (hb c (by simp)).1 (hb c (by simp)).2 _ h (by omega)
    rw [e, texts_all t hs bs K _ _ (fun b hbb => hb b (by simp [hbb])) (by omega) hd (by simp; omega)]
    simp
theorem str_bytes (s : ByteArray) : strOfNums (bytesOf s) = s := by
  apply ba_eq
  rw [Go.ByteArray.toList_eq, Go.ByteArray.toList_eq]
  show ((bytesOf s).map fun x => UInt8.ofNat x.toNat) = _
  unfold bytesOf
  rw [List.map_map]
  conv => rhs; rw [← List.map_id s.data.toList]
  apply List.map_congr_left
  intro b _
  simp
theorem bytes_in (s : ByteArray) : ∀ b ∈ bytesOf s, 0 ≤ b ∧ b ≤ 255 := by
  intro b hb
  obtain ⟨c, _, rfl⟩ := List.mem_map.1 hb
  have := c.toNat_lt
  omega
theorem esc_list (s : ByteArray) : (escS s).toList = (bytesOf s).flatMap escC := by
  rw [Go.ByteArray.toList_eq]
  show escL s s.size = _
  unfold escL
  rw [List.take_of_length_le (by rw [bytesOf_length]; exact Nat.le_refl _)]
theorem texts_esc (s : ByteArray) (hs : s.size ≤ 100000) (K : Nat) (hK : s.size + 1 ≤ K) : script_texts.f K (escS s) = some (s, true) := by
  have hl := escL_le s s.size (Nat.le_refl _)
  have hz : (escS s).size = (escL s s.size).length := by rw [← len_eq, Go.ByteArray.toList_eq]; rfl
  have h := texts_all (escS s) (by omega) (bytesOf s) K 0 [] (bytes_in s) (by rw [bytesOf_length]; exact hK) (by rw [List.drop_zero, esc_list]) (by rw [bytesOf_length]; simp; omega)
  unfold script_texts.f
  rw [List.nil_append, str_bytes] at h
  exact h
/-- Texts of any word tell something, no longer than the word. -/
theorem index_some (a : ByteArray) (c : Int) : ∃ v, strings_IndexByte.f a c = some v := ⟨_, rfl⟩
theorem value_some (a : ByteArray) (h : a.size = 2) : ∃ v b, script_value.f a = some (v, b) := by
  unfold script_value.f
  rw [if_pos (by omega)]
  obtain ⟨v1, h1⟩ := index_some (⟨#[48, 49, 50, 51, 52, 53, 54, 55, 56, 57, 65, 66, 67, 68, 69, 70]⟩ : ByteArray) (bt a 0)
  obtain ⟨v2, h2⟩ := index_some (⟨#[48, 49, 50, 51, 52, 53, 54, 55, 56, 57, 65, 66, 67, 68, 69, 70]⟩ : ByteArray) (bt a 1)
  rw [h1, Option.bind_some, if_pos (by omega), h2, Option.bind_some]
  split <;> exact ⟨_, _, rfl⟩
theorem str_size (l : List Int) : (strOfNums l).size = l.length := by
  rw [← len_eq, Go.ByteArray.toList_eq]
  show (l.map fun x => UInt8.ofNat x.toNat).length = _
  simp
theorem texts_some (t : ByteArray) (hs : t.size ≤ 1000000) : ∀ (d K i : Nat) (acc : List Int), t.size - i ≤ d → d + 1 ≤ K → i ≤ t.size → acc.length ≤ i → ∃ r b, script_texts.l0 K t acc (i : Int) = some (r, b) ∧ r.size ≤ t.size
  | _, 0, _, _, _, hK, _, _ => absurd hK (by omega)
  | d, K + 1, i, acc, hd, hK, hi, ha => by
    rw [script_texts.l0]
    by_cases h : i < t.size
    · obtain ⟨d, rfl⟩ : ∃ d', d = d' + 1 := ⟨d - 1, by omega⟩
      have E1 := Aside0.mk (show wrap64 ((i : Int) + 1) = ((i + 1 : Nat) : Int) from wrap_lit i 1 1 rfl (by omega))
      have E2 := Aside0.mk (show wrap64 ((i : Int) + 2) = ((i + 2 : Nat) : Int) from wrap_lit i 2 2 rfl (by omega))
      have E3 := Aside0.mk (show wrap64 ((i : Int) + 3) = ((i + 3 : Nat) : Int) from wrap_lit i 3 3 rfl (by omega))
      have E4 := Aside0.mk (show wrap64 (((i + 2 : Nat) : Int) + 1) = ((i + 2 + 1 : Nat) : Int) from wrap_lit (i + 2) 1 1 rfl (by omega))
      rw [if_pos (by omega), if_pos (by omega), E1.out, E2.out, E3.out, E4.out]
      by_cases hc : bt t (i : Int) = 37
      · rw [if_pos hc]
        by_cases hz : t.size ≤ i + 2
        · rw [if_pos (by omega)]
          exact ⟨_, _, rfl, Nat.zero_le _⟩
        · rw [if_neg (by omega), if_pos (by omega), if_pos (by omega), if_pos (by omega)]
          obtain ⟨v, b, hv⟩ := value_some (t.extract (((i + 1 : Nat) : Int)).toNat (((i + 3 : Nat) : Int)).toNat) (by rw [ByteArray.size_extract]; omega)
          rw [hv]
          simp only [Option.bind_some]
          cases b with
          | true =>
            rw [if_pos rfl, if_pos (by omega)]
            exact texts_some t hs d K (i + 2 + 1) (acc ++ [v]) (by omega) (by omega) (by omega) (by simp; omega)
          | false => exact ⟨_, _, rfl, Nat.zero_le _⟩
      · rw [if_neg hc, if_pos (by omega)]
        exact texts_some t hs d K (i + 1) (acc ++ [bt t (i : Int)]) (by omega) (by omega) (by omega) (by simp; omega)
    · rw [if_neg (by omega)]
      exact ⟨_, _, rfl, by rw [str_size]; omega⟩
theorem hexD_cons (c : Int) (ds : List Int) : (hexD (c :: ds)).toList = (twoS c).data.toList ++ (hexD ds).toList := by
  rw [Go.ByteArray.toList_eq, Go.ByteArray.toList_eq]
  rfl
theorem hexD_size : ∀ (ds : List Int), (∀ b ∈ ds, 0 ≤ b ∧ b ≤ 255) → (hexD ds).size = 2 * ds.length
  | [], _ => rfl
  | c :: ds, h => by
    have hz := two_size c (h c (by simp)).1 (h c (by simp)).2
    have hl : (twoS c).data.toList.length = 2 := by rw [← hz]; simp
    rw [← len_eq, hexD_cons, List.length_append, hl, len_eq, hexD_size ds (fun b hb => h b (by simp [hb])), List.length_cons]
    omega
theorem draws_all : ∀ (ds : List Int) (K : Nat) (acc : List Int), (∀ b ∈ ds, 0 ≤ b ∧ b ≤ 255) → ds.length + 1 ≤ K → drawsL K (hexD ds) acc = some (acc ++ ds, true)
  | _, 0, _, _, hK => absurd hK (by omega)
  | [], K + 1, acc, _, _ => by
    rw [drawsL, if_pos (show (hexD []).size = 0 from rfl), List.append_nil]
  | c :: ds, K + 1, acc, hb, hK => by
    have hz := hexD_size (c :: ds) hb
    have h0 := hb c (by simp)
    have hl : (twoS c).data.toList.length = 2 := by rw [← two_size c h0.1 h0.2]; simp
    simp only [List.length_cons] at hz hK
    have e1 : (hexD (c :: ds)).extract 0 2 = twoS c := by
      apply ba_eq
      rw [toList_ext, hexD_cons, List.take_append_of_le_length (by omega), List.take_of_length_le (by omega), List.drop_zero, Go.ByteArray.toList_eq]
    have e2 : (hexD (c :: ds)).extract 2 (hexD (c :: ds)).size = hexD ds := by
      apply ba_eq
      rw [toList_ext, ← len_eq, List.take_length, hexD_cons, List.drop_append_of_le_length (by omega), List.drop_of_length_le (by omega), List.nil_append]
    rw [drawsL, if_neg (by omega), e1, e2, value_two c h0.1 h0.2]
    simp only [Option.bind_some]
    rw [if_pos trivial, draws_all ds K _ (fun b hbb => hb b (by simp [hbb])) (by omega)]
    simp
theorem value_in (a : ByteArray) (v : Int) (b : Bool) (h : script_value.f a = some (v, b)) : 0 ≤ v ∧ v ≤ 255 := by
  unfold script_value.f at h
  split at h
  · obtain ⟨v1, h1, h⟩ := Option.bind_eq_some_iff.1 h
    split at h
    · obtain ⟨v2, h2, h⟩ := Option.bind_eq_some_iff.1 h
      split at h <;> (obtain ⟨rfl, _⟩ := Prod.mk.inj (Option.some.inj h); omega)
    · cases h
  · cases h
theorem draws_some : ∀ (K : Nat) (s : ByteArray) (acc : List Int), s.size + 1 ≤ K → s.size % 2 = 0 → ∃ r b, drawsL K s acc = some (r, b) ∧ (acc.length ≤ r.length) ∧ r.length ≤ acc.length + s.size ∧ ((∀ z ∈ acc, 0 ≤ z ∧ z ≤ 255) → ∀ z ∈ r, 0 ≤ z ∧ z ≤ 255)
  | 0, _, _, hK, _ => absurd hK (by omega)
  | K + 1, s, acc, hK, he => by
    rw [drawsL]
    by_cases hz : s.size = 0
    · rw [if_pos hz]
      exact ⟨_, _, rfl, Nat.le_refl _, by omega, fun h => h⟩
    · rw [if_neg hz]
      obtain ⟨v, b, hv⟩ := value_some (s.extract 0 2) (by rw [ByteArray.size_extract]; omega)
      have hvi := value_in _ v b hv
      rw [hv]
      simp only [Option.bind_some]
      have hsx : (s.extract 2 s.size).size = s.size - 2 := by simp
      cases b with
      | true =>
        rw [if_pos rfl]
        obtain ⟨r, b, hr, h1, h2, h3⟩ := draws_some K (s.extract 2 s.size) (acc ++ [v]) (by omega) (by omega)
        rw [List.length_append] at h1 h2
        refine ⟨r, b, hr, by simp at h1; omega, by simp at h2; omega, fun h => h3 (fun z hz' => ?_)⟩
        rcases List.mem_append.1 hz' with hz' | hz'
        · exact h z hz'
        · rw [List.mem_singleton] at hz'
          omega
      | false => exact ⟨_, _, rfl, Nat.le_refl _, by omega, fun h => h⟩
end Go.Proofs.YtndgaeldndgioaaGreatDoor.Pure
end

section
/- Walks, written by a program of this session (wip/pp): a Go function comes to what the Lean function beside it tells. -/
namespace Go.Proofs.YtndgaeldndgioaaGreatDoor.QAll
open Go.RowKit Go.Proofs.YtndgaeldndgioaaGreatDoorW.PrintWords Go.Proofs.YtndgaeldndgioaaGreatDoorW.PrintLast Go.Proofs.YtndgaeldndgioaaGreatDoorW.PrintMore
attribute [local go_sem] max2_int min2_int max_two min_two max_three min_three max_four min_four
set_option linter.unusedVariables false
set_option linter.unusedSimpArgs false

def squelchref30_number.l0 : Nat → ByteArray → Int → Int → Int → Option (Int)
 | 0, _, _, _, _ => none
 | k + 1, x0, x3, x4, x5 => if x5 < (x0.size : Int) then (if 0 ≤ x5 then (if (bt x0 x5) = 45 then (squelchref30_number.l0 k x0 x3 (-1) (wrap64 (x5 + 1))) else (squelchref30_number.l0 k x0 (wrap64 ((wrap64 (10 * x3)) + (wrap64 (Int.tmod (bt x0 x5) 16)))) x4 (wrap64 (x5 + 1)))) else (none)) else (some (wrap64 (x3 * x4)))
def squelchref30_number.f (k : Nat) (a0 : ByteArray) : Option (Int) := if (a0.size : Int) > 5 then (some 0) else (squelchref30_number.l0 k a0 0 1 0)
end Go.Proofs.YtndgaeldndgioaaGreatDoor.QAll
end

section
/- Numbers from -9999 to 9999 as words: written and read by the program and by the reference. -/
set_option linter.unusedVariables false
set_option linter.unusedSimpArgs false
set_option maxHeartbeats 1000000
namespace Go.Proofs.YtndgaeldndgioaaGreatDoor.Pure
open Go.RowKit Go.Proofs.YtndgaeldndgioaaGreatDoor.QAll Go.Proofs.YtndgaeldndgioaaGreatDoorW.PrintWords Go.Proofs.YtndgaeldndgioaaGreatDoorW.PrintLast
def dv (v : Nat) (c : UInt8) : Nat := v * 10 + (c.toNat - 48)
theorem dec_rec (u : Nat) : Lib.decDigits u = if u < 10 then [UInt8.ofNat (48 + u)] else Lib.decDigits (u / 10) ++ [UInt8.ofNat (48 + u % 10)] := by
  rw [Lib.decDigits]
  split <;> rfl
theorem dig_nat (z : Nat) (h : z < 10) : (UInt8.ofNat (48 + z)).toNat = 48 + z := by
  have : (48 + z) % 256 = 48 + z := Nat.mod_eq_of_lt (by omega)
  simpa using this
theorem dec_all : ∀ (j u : Nat), u < 10 ^ (j + 1) → (∀ c ∈ Lib.decDigits u, 48 ≤ c.toNat ∧ c.toNat ≤ 57) ∧ (Lib.decDigits u).foldl dv 0 = u ∧ 1 ≤ (Lib.decDigits u).length ∧ (Lib.decDigits u).length ≤ j + 1 := by
  intro j
  induction j with
  | zero =>
    intro u hu
    have hu' : u < 10 := by simpa using hu
    rw [dec_rec, if_pos hu']
    refine ⟨fun c hc => ?_, ?_, by simp, by simp⟩
    · rw [List.mem_singleton] at hc
      rw [hc, dig_nat u hu']
      omega
    · rw [List.foldl_cons, List.foldl_nil, dv, dig_nat u hu']
      omega
  | succ j ih =>
    intro u hu
    by_cases hl : u < 10
    · rw [dec_rec, if_pos hl]
      refine ⟨fun c hc => ?_, ?_, by simp, by simp⟩
      · rw [List.mem_singleton] at hc
        rw [hc, dig_nat u hl]
        omega
      · rw [List.foldl_cons, List.foldl_nil, dv, dig_nat u hl]
        omega
    · have hp : u / 10 < 10 ^ (j + 1) := by
        rw [Nat.pow_succ] at hu
        omega
      obtain ⟨h1, h2, h3, h4⟩ := ih (u / 10) hp
      rw [dec_rec, if_neg hl]
      refine ⟨fun c hc => ?_, ?_, ?_, ?_⟩
      · rcases List.mem_append.1 hc with hc | hc
        · exact h1 c hc
        · rw [List.mem_singleton] at hc
          rw [hc, dig_nat _ (by omega)]
          omega
      · rw [List.foldl_append, h2, List.foldl_cons, List.foldl_nil, dv, dig_nat _ (by omega)]
        omega
      · rw [List.length_append]; omega
      · rw [List.length_append, List.length_singleton]; omega
theorem parse_dig : ∀ (L : List UInt8) (acc a : Nat), (∀ c ∈ L, 48 ≤ c.toNat ∧ c.toNat ≤ 57) → acc < 10 ^ a → a + L.length ≤ 12 → Lib.parseUint10 acc L = .ok (L.foldl dv acc)
  | [], _, _, _, _, _ => rfl
  | c :: L, acc, a, hc, ha, hl => by
    have h0 := hc c (by simp)
    have hp : 10 ^ a ≤ 10 ^ 12 := Nat.pow_le_pow_right (by decide) (by omega)
    have hq : (10 : Nat) ^ 12 = 1000000000000 := by decide
    simp only [List.length_cons] at hl
    rw [Lib.parseUint10, if_pos h0, if_neg (by omega), if_neg (by omega), List.foldl_cons]
    exact parse_dig L (dv acc c) (a + 1) (fun x hx => hc x (by simp [hx])) (by unfold dv; rw [Nat.pow_succ]; omega) (by omega)
theorem mag_dec (u : Nat) (hu : u < 10000) : Lib.parseMag (Lib.decDigits u) = .ok u := by
  obtain ⟨h1, h2, h3, h4⟩ := dec_all 3 u (by simpa using hu)
  unfold Lib.parseMag
  rw [if_neg (fun h => by rw [h] at h3; simp at h3), parse_dig _ 0 0 h1 (by decide) (by omega), h2]
theorem itoa_pos (u : Nat) : Lib.itoa (u : Int) = Lib.decDigits u := by unfold Lib.itoa; rw [if_neg (by omega)]; simp
theorem itoa_min (u : Nat) (h : 1 ≤ u) : Lib.itoa (-(u : Int)) = 45 :: Lib.decDigits u := by unfold Lib.itoa; rw [if_pos (by omega)]; simp
theorem num_split (n : Int) (h0 : -9999 ≤ n) (h1 : n ≤ 9999) : (∃ u : Nat, u < 10000 ∧ n = u ∧ Lib.itoa n = Lib.decDigits u) ∨ ∃ u : Nat, 1 ≤ u ∧ u < 10000 ∧ n = -(u : Int) ∧ Lib.itoa n = 45 :: Lib.decDigits u := by
  by_cases hn : 0 ≤ n
  · obtain ⟨u, rfl⟩ := Int.eq_ofNat_of_zero_le hn
    exact Or.inl ⟨u, by omega, rfl, itoa_pos u⟩
  · obtain ⟨u, hu⟩ := Int.eq_ofNat_of_zero_le (show 0 ≤ -n by omega)
    have : n = -(u : Int) := by omega
    subst this
    exact Or.inr ⟨u, by omega, by omega, rfl, itoa_min u (by omega)⟩
theorem num_atoi (n : Int) (h0 : -9999 ≤ n) (h1 : n ≤ 9999) : atoiV (itoaB n) = some n := by
  unfold atoiV
  rw [show (itoaB n).data.toList = Lib.itoa n from rfl]
  rcases num_split n h0 h1 with ⟨u, hu, rfl, e⟩ | ⟨u, hu0, hu, rfl, e⟩
  · rw [e]
    obtain ⟨q1, q2, q3, q4⟩ := dec_all 3 u (by simpa using hu)
    have hm := mag_dec u hu
    cases hd : Lib.decDigits u with
    | nil => rw [hd] at q3; simp at q3
    | cons c r =>
      have hc := q1 c (by rw [hd]; simp)
      rw [Lib.atoiAll_plain c r (by omega) (by omega), ← hd, hm]
      simp only [Lib.signless]
      rw [if_neg (by omega)]
  · rw [e, Lib.atoiAll_minus, mag_dec u hu]
    simp only [Lib.signed]
    rw [if_neg (by omega)]
theorem num_size (n : Int) (h0 : -9999 ≤ n) (h1 : n ≤ 9999) : (itoaB n).size ≤ 5 := by
  have e0 : (itoaB n).size = (Lib.itoa n).length := by rw [← len_eq, Go.ByteArray.toList_eq]; rfl
  rcases num_split n h0 h1 with ⟨u, hu, rfl, e⟩ | ⟨u, hu0, hu, rfl, e⟩
  · obtain ⟨q1, q2, q3, q4⟩ := dec_all 3 u (by simpa using hu)
    rw [e0, e]; omega
  · obtain ⟨q1, q2, q3, q4⟩ := dec_all 3 u (by simpa using hu)
    rw [e0, e, List.length_cons]; omega
theorem num_blank (n : Int) (h0 : -9999 ≤ n) (h1 : n ≤ 9999) : ∀ b ∈ (itoaB n).toList, b ≠ 32 := by
  have e0 : (itoaB n).toList = Lib.itoa n := by rw [Go.ByteArray.toList_eq]; rfl
  have hb : ∀ b : UInt8, 48 ≤ b.toNat → b ≠ 32 := fun b hb e => by
    have h32 : (32 : UInt8).toNat = 32 := rfl
    rw [e] at hb
    omega
  rw [e0]
  rcases num_split n h0 h1 with ⟨u, hu, rfl, e⟩ | ⟨u, hu0, hu, rfl, e⟩
  · obtain ⟨q1, q2, q3, q4⟩ := dec_all 3 u (by simpa using hu)
    rw [e]
    exact fun b hbm => hb b (q1 b hbm).1
  · obtain ⟨q1, q2, q3, q4⟩ := dec_all 3 u (by simpa using hu)
    rw [e]
    intro b hbm
    rcases List.mem_cons.1 hbm with rfl | hbm
    · decide
    · exact hb b (q1 b hbm).1
theorem u64_id (z : Int) (h0 : 0 ≤ z) (h1 : z ≤ 1000000000000000) : IntKind.u64.wrap z = z := by
  show z % 18446744073709551616 = z
  omega
theorem dig_step (K u : Nat) (acc : ByteArray) (hu : u < 1000000) (ha : acc.size ≤ 1000) (h : acc.toList = [] ∨ 0 < u) : squelchref26_digits.l0 (K + 1) (u : Int) acc = squelchref26_digits.l0 K ((u / 10 : Nat) : Int) ((⟨#[UInt8.ofNat (48 + u % 10)]⟩ : ByteArray) ++ acc) := by
  have h1 : Int.tmod (u : Int) 10 = ((u % 10 : Nat) : Int) := by rw [Int.tmod_eq_emod_of_nonneg (by omega)]; omega
  have h2 : Int.tdiv (u : Int) 10 = ((u / 10 : Nat) : Int) := by rw [Int.tdiv_eq_ediv_of_nonneg (by omega)]; omega
  have h3 : IntKind.u64.wrap (48 + ((u % 10 : Nat) : Int)) % 256 = ((48 + u % 10 : Nat) : Int) := by rw [u64_id _ (by omega) (by omega)]; omega
  have h4 : IntKind.u64.wrap ((u / 10 : Nat) : Int) = ((u / 10 : Nat) : Int) := u64_id _ (by omega) (by omega)
  have h5 : strOfNums [((48 + u % 10 : Nat) : Int)] = ⟨#[UInt8.ofNat (48 + u % 10)]⟩ := by
    apply ba_eq
    rw [strOf_one, Go.ByteArray.toList_eq, Int.toNat_natCast]
  have h6 : (⟨#[UInt8.ofNat (48 + u % 10)]⟩ : ByteArray).size = 1 := rfl
  rw [squelchref26_digits.l0, h1, h2, h3, h4]
  simp only [Option.bind_some]
  rw [h5, h6, if_pos (show 1 + acc.size ≤ 9223372036854775807 by omega)]
  by_cases he : acc.toList = []
  · rw [if_pos he]
  · rcases h with h | h
    · exact absurd h he
    · rw [if_neg he, if_pos (by omega)]
theorem dig_end (K : Nat) (acc : ByteArray) (h : acc.toList ≠ []) : squelchref26_digits.l0 (K + 1) 0 acc = some acc := by
  rw [squelchref26_digits.l0, if_neg h, if_neg (by omega)]
theorem dig_all : ∀ (j u K : Nat) (acc : ByteArray), u < 10 ^ (j + 1) → j ≤ 4 → j + 2 ≤ K → acc.size + j ≤ 500 → (acc.toList = [] ∨ 0 < u) → squelchref26_digits.l0 K (u : Int) acc = some (⟨(Lib.decDigits u).toArray⟩ ++ acc) := by
  have ne : ∀ (c : UInt8) (acc : ByteArray), ((⟨#[c]⟩ : ByteArray) ++ acc).toList ≠ [] := fun c acc h => by
    rw [toList_app, Go.ByteArray.toList_eq ⟨#[c]⟩] at h
    cases h
  have small : ∀ (u K : Nat) (acc : ByteArray), u < 10 → 2 ≤ K → acc.size ≤ 500 → (acc.toList = [] ∨ 0 < u) → squelchref26_digits.l0 K (u : Int) acc = some (⟨(Lib.decDigits u).toArray⟩ ++ acc) := by
    intro u K acc hu hK ha h
    obtain ⟨K, rfl⟩ : ∃ k, K = k + 2 := ⟨K - 2, by omega⟩
    rw [dig_step (K + 1) u acc (by omega) (by omega) h, show u / 10 = 0 by omega]
    show squelchref26_digits.l0 (K + 1) 0 _ = _
    rw [dig_end K _ (ne _ acc), show u % 10 = u by omega, dec_rec, if_pos hu]
  intro j
  induction j with
  | zero =>
    intro u K acc hu _ hK ha h
    exact small u K acc (by simpa using hu) (by omega) (by omega) h
  | succ j ih =>
    intro u K acc hu hj hK ha h
    by_cases hl : u < 10
    · exact small u K acc hl (by omega) (by omega) h
    · obtain ⟨K, rfl⟩ : ∃ k, K = k + 1 := ⟨K - 1, by omega⟩
      have hp : 10 ^ (j + 1 + 1) ≤ 10 ^ 6 := Nat.pow_le_pow_right (by decide) (by omega)
      have hq : (10 : Nat) ^ 6 = 1000000 := by decide
      have h1 : (⟨#[UInt8.ofNat (48 + u % 10)]⟩ : ByteArray).size = 1 := rfl
      rw [dig_step K u acc (by omega) (by omega) h, ih (u / 10) K _ (by rw [Nat.pow_succ] at hu; omega) (by omega) (by omega) (by rw [ByteArray.size_append, h1]; omega) (Or.inr (by omega))]
      congr 1
      apply ba_eq
      rw [toList_app, toList_app, toList_app, Go.ByteArray.toList_eq ⟨(Lib.decDigits (u / 10)).toArray⟩, Go.ByteArray.toList_eq ⟨(Lib.decDigits u).toArray⟩, Go.ByteArray.toList_eq ⟨#[UInt8.ofNat (48 + u % 10)]⟩]
      show Lib.decDigits (u / 10) ++ ([UInt8.ofNat (48 + u % 10)] ++ acc.toList) = Lib.decDigits u ++ acc.toList
      rw [dec_rec u, if_neg hl, List.append_assoc]
theorem num_dig (n : Int) (h0 : -9999 ≤ n) (h1 : n ≤ 9999) : squelchref26_Digits.f 8 n = some (itoaB n) := by
  have he : (⟨#[]⟩ : ByteArray).toList = [] := by rw [Go.ByteArray.toList_eq]
  have h1' : (⟨#[45]⟩ : ByteArray).size = 1 := rfl
  unfold squelchref26_Digits.f squelchref26_digits.f
  rcases num_split n h0 h1 with ⟨u, hu, rfl, e⟩ | ⟨u, hu0, hu, rfl, e⟩
  · rw [if_neg (by omega), u64_id _ (by omega) (by omega), dig_all 3 u 8 ⟨#[]⟩ (by simpa using hu) (by omega) (by omega) (by decide) (Or.inl he), Option.bind_some]
    congr 1
    apply ba_eq
    rw [toList_app, he, List.append_nil, Go.ByteArray.toList_eq, Go.ByteArray.toList_eq]
    exact e.symm
  · have hw : IntKind.u64.wrap (-(IntKind.u64.wrap (-(u : Int)))) = (u : Int) := by
      show (-((-(u : Int)) % 18446744073709551616)) % 18446744073709551616 = (u : Int)
      omega
    have hsz : (⟨(Lib.decDigits u).toArray⟩ ++ (⟨#[]⟩ : ByteArray)).size ≤ 10 := by
      obtain ⟨q1, q2, q3, q4⟩ := dec_all 3 u (by simpa using hu)
      rw [← len_eq, toList_app, he, List.append_nil, Go.ByteArray.toList_eq]
      show (Lib.decDigits u).length ≤ 10
      omega
    rw [if_pos (by omega), hw, dig_all 3 u 8 ⟨#[]⟩ (by simpa using hu) (by omega) (by omega) (by decide) (Or.inl he), Option.bind_some, if_pos (by omega)]
    congr 1
    apply ba_eq
    rw [toList_app, toList_app, he, List.append_nil, Go.ByteArray.toList_eq, Go.ByteArray.toList_eq, Go.ByteArray.toList_eq]
    exact e.symm
end Go.Proofs.YtndgaeldndgioaaGreatDoor.Pure
end

section
/- script.set of draws that are none: nothing is set. -/
set_option linter.unusedVariables false
set_option linter.unusedSimpArgs false
namespace Go.Proofs.YtndgaeldndgioaaGreatDoor.QAll
open Go.RowKit Go.Proofs.YtndgaeldndgioaaGreatDoorW.PrintWords Go.Proofs.YtndgaeldndgioaaGreatDoorW.PrintLast Go.Proofs.YtndgaeldndgioaaGreatDoorW.PrintMore
set_option maxHeartbeats 8000000 in
set_option maxRecDepth 100000 in
theorem set_D_none {T : Nat × Obj} (B g : Nat) (e : Ev) (wd s1 : ByteArray) (w : World) (hB : EB T B g e w) (h : strings_CutPrefix.f wd ⟨#[35]⟩ = some (s1, false)) :
    Calls Tryz.prog 51 #[.pointer (some ⟨g, 0, none⟩), .int .i32 68, .string wd] w fun r w' => r = .returned (.bool false) ∧ EB T B g e w' ∧ Below B w w' := by
  have HE := Aside0.mk hB
  have HA := Aside0.mk h
  clear hB h
  go_enter Tryz.func51, Tryz.ntmps51
  go_wp2_with (fail)
  (with_reducible refine (strings_CutPrefix.calls wd ⟨#[35]⟩ s1 false _ HA.out).mono ?_)
  rintro r w1 ⟨rfl, hd1⟩
  have HE1 := Aside0.mk (EB_below HE.out hd1.below)
  have HB1 := Aside0.mk (hd1.below.mono (EB_le HE.out))
  clear hd1
  go_wp2_with (fail)
  go_ret
  exact ⟨rfl, HE1.out, HB1.out⟩
set_option maxHeartbeats 8000000 in
set_option maxRecDepth 100000 in
theorem set_D_odd {T : Nat × Obj} (B g : Nat) (e : Ev) (wd s1 : ByteArray) (w : World) (hB : EB T B g e w) (h : strings_CutPrefix.f wd ⟨#[35]⟩ = some (s1, true)) (ho : s1.size % 2 = 1) :
    Calls Tryz.prog 51 #[.pointer (some ⟨g, 0, none⟩), .int .i32 68, .string wd] w fun r w' => r = .returned (.bool false) ∧ EB T B g e w' ∧ Below B w w' := by
  have HE := Aside0.mk hB
  have HA := Aside0.mk h
  clear hB h
  have hm : Int.tmod (s1.size : Int) 2 = 1 := by rw [Int.tmod_eq_emod_of_nonneg (by omega)]; omega
  go_enter Tryz.func51, Tryz.ntmps51
  go_wp2_with (fail)
  (with_reducible refine (strings_CutPrefix.calls wd ⟨#[35]⟩ s1 true _ HA.out).mono ?_)
  rintro r w1 ⟨rfl, hd1⟩
  have HE1 := Aside0.mk (EB_below HE.out hd1.below)
  have HB1 := Aside0.mk (hd1.below.mono (EB_le HE.out))
  clear hd1
  go_wp2_with (fail)
  go_ret
  exact ⟨rfl, HE1.out, HB1.out⟩
end Go.Proofs.YtndgaeldndgioaaGreatDoor.QAll
end

section
/- script.set, whole: what a word makes of an event, by its letter. -/
set_option linter.unusedVariables false
set_option linter.unusedSimpArgs false
namespace Go.Proofs.YtndgaeldndgioaaGreatDoor.QAll
open Go.RowKit Go.Proofs.YtndgaeldndgioaaGreatDoorW.PrintWords Go.Proofs.YtndgaeldndgioaaGreatDoorW.PrintLast Go.Proofs.YtndgaeldndgioaaGreatDoorW.PrintMore
open Go.Proofs.YtndgaeldndgioaaGreatDoor.Fl
def setNum (e : Ev) (c v : Int) : Option Ev :=
  if c = 88 then some { e with x := v } else if c = 89 then some { e with y := v } else if c = 65 then some { e with a := v }
  else if c = 66 then some { e with b := v } else if c = 78 then some { e with n := v } else if c = 77 then some { e with m := v } else none
theorem setNum_calls {T : Nat × Obj} (B g : Nat) (e e' : Ev) (c v : Int) (wd : ByteArray) (w : World) (hE : EnvW w) (hB : EB T B g e w) (hs : wd.size ≤ 1000000) (h : atoiV wd = some v) (h0 : -9999 ≤ v) (h1 : v ≤ 9999) (hn : setNum e c v = some e') :
    Calls Tryz.prog 51 #[.pointer (some ⟨g, 0, none⟩), .int .i32 c, .string wd] w fun r w' => r = .returned (.bool true) ∧ EB T B g e' w' ∧ Below B w w' := by
  unfold setNum at hn
  by_cases c1 : c = 88
  · rw [if_pos c1] at hn
    obtain rfl := Option.some.inj hn
    subst c1
    exact set_X B g e wd v w hE hB hs h h0 h1
  rw [if_neg c1] at hn
  by_cases c2 : c = 89
  · rw [if_pos c2] at hn
    obtain rfl := Option.some.inj hn
    subst c2
    exact set_Y B g e wd v w hE hB hs h h0 h1
  rw [if_neg c2] at hn
  by_cases c3 : c = 65
  · rw [if_pos c3] at hn
    obtain rfl := Option.some.inj hn
    subst c3
    exact set_A B g e wd v w hE hB hs h h0 h1
  rw [if_neg c3] at hn
  by_cases c4 : c = 66
  · rw [if_pos c4] at hn
    obtain rfl := Option.some.inj hn
    subst c4
    exact set_B B g e wd v w hE hB hs h h0 h1
  rw [if_neg c4] at hn
  by_cases c5 : c = 78
  · rw [if_pos c5] at hn
    obtain rfl := Option.some.inj hn
    subst c5
    exact set_N B g e wd v w hE hB hs h h0 h1
  rw [if_neg c5] at hn
  by_cases c6 : c = 77
  · rw [if_pos c6] at hn
    obtain rfl := Option.some.inj hn
    subst c6
    exact set_M B g e wd v w hE hB hs h h0 h1
  rw [if_neg c6] at hn
  cases hn
/-- What set makes of an event, and what it tells. -/
def setC (e : Ev) (c : Int) (wd : ByteArray) : Option (Ev × Bool) :=
  if 100000 < wd.size ∨ 100000 < e.d.length then none
  else if c = 83 then (strings_TrimPrefix.f wd ⟨#[61]⟩).bind fun t0 => (script_texts.f (t0.size + 2) t0).bind fun t => (strings_HasPrefix.f wd ⟨#[61]⟩).map fun pf => ({ e with s := t.1 }, t.2 && pf)
  else if c = 68 then (strings_CutPrefix.f wd ⟨#[35]⟩).bind fun q =>
    if q.2 = true then if q.1.size % 2 = 1 then some (e, false) else if q.1.size ≤ 100000 then (drawsL (q.1.size + 2) q.1 e.d).map fun r => ({ e with d := r.1 }, r.2) else none
    else some (e, false)
  else match atoiV wd with
    | none => some (e, false)
    | some v => if -9999 ≤ v ∧ v ≤ 9999 then (setNum e c v).map fun e' => (e', true) else some (e, false)
theorem set_calls {T : Nat × Obj} (B g : Nat) (e e' : Ev) (c : Int) (wd : ByteArray) (ok : Bool) (w : World) (hE : EnvW w) (hB : EB T B g e w) (h : setC e c wd = some (e', ok)) :
    Calls Tryz.prog 51 #[.pointer (some ⟨g, 0, none⟩), .int .i32 c, .string wd] w fun r w' => r = .returned (.bool ok) ∧ EB T B g e' w' ∧ Below B w w' := by
  unfold setC at h
  by_cases hz : 100000 < wd.size ∨ 100000 < e.d.length
  · rw [if_pos hz] at h
    cases h
  rw [if_neg hz] at h
  by_cases c1 : c = 83
  · rw [if_pos c1] at h
    subst c1
    obtain ⟨t0, h0, h⟩ := Option.bind_eq_some_iff.1 h
    obtain ⟨t, h1, h⟩ := Option.bind_eq_some_iff.1 h
    obtain ⟨pf, h2, h⟩ := Option.map_eq_some_iff.1 h
    obtain ⟨rfl, rfl⟩ := Prod.mk.inj h
    exact set_S B g e wd _ t.1 t.2 t0 pf w hB h0 h1 h2
  rw [if_neg c1] at h
  by_cases c2 : c = 68
  · rw [if_pos c2] at h
    subst c2
    obtain ⟨⟨s1, is⟩, h0, h⟩ := Option.bind_eq_some_iff.1 h
    cases is with
    | false =>
      rw [if_neg (show ¬ (s1, false).2 = true from Bool.false_ne_true)] at h
      obtain ⟨rfl, rfl⟩ := Prod.mk.inj (Option.some.inj h)
      exact set_D_none B g e wd s1 w hB h0
    | true =>
      rw [if_pos rfl] at h
      by_cases ho : s1.size % 2 = 1
      · rw [if_pos ho] at h
        obtain ⟨rfl, rfl⟩ := Prod.mk.inj (Option.some.inj h)
        exact set_D_odd B g e wd s1 w hB h0 ho
      · rw [if_neg ho] at h
        by_cases hs : s1.size ≤ 100000
        · rw [if_pos hs] at h
          obtain ⟨r, hr, h⟩ := Option.map_eq_some_iff.1 h
          obtain ⟨rfl, rfl⟩ := Prod.mk.inj h
          exact set_D B g e wd s1 _ r.1 r.2 w hB h0 (by omega) hs (by omega) hr
        · rw [if_neg hs] at h
          cases h
  rw [if_neg c2] at h
  cases ha : atoiV wd with
  | none =>
    rw [ha] at h
    obtain ⟨rfl, rfl⟩ := Prod.mk.inj (Option.some.inj h)
    exact set_none B g e c wd w hE hB c1 c2 (by omega) ha
  | some v =>
    rw [ha] at h
    by_cases hv : -9999 ≤ v ∧ v ≤ 9999
    · simp only [if_pos hv] at h
      obtain ⟨e1, h1, h⟩ := Option.map_eq_some_iff.1 h
      obtain ⟨rfl, rfl⟩ := Prod.mk.inj h
      exact setNum_calls B g e e1 c v wd w hE hB (by omega) ha hv.1 hv.2 h1
    · simp only [if_neg hv] at h
      obtain ⟨rfl, rfl⟩ := Prod.mk.inj (Option.some.inj h)
      exact set_out B g e c wd v w hE hB c1 c2 (by omega) ha hv
end Go.Proofs.YtndgaeldndgioaaGreatDoor.QAll
end

section
/- Walks, written by a program of this session (wip/pp): a Go function comes to what the Lean function beside it tells. -/
namespace Go.Proofs.YtndgaeldndgioaaGreatDoor.QAll
open Go.RowKit Go.Proofs.YtndgaeldndgioaaGreatDoorW.PrintWords Go.Proofs.YtndgaeldndgioaaGreatDoorW.PrintLast Go.Proofs.YtndgaeldndgioaaGreatDoorW.PrintMore
attribute [local go_sem] max2_int min2_int max_two min_two max_three min_three max_four min_four
set_option linter.unusedVariables false
set_option linter.unusedSimpArgs false

def script_kindOf.l0 : Nat → ByteArray → Int → Option (Int)
 | 0, _, _ => none
 | k + 1, x0, x3 => if x3 ≤ 11 then ((script_form.f x3).bind fun bt113 => (if bt113.1.toList = x0.toList then (some x3) else (script_kindOf.l0 k x0 (wrap64 (x3 + 1))))) else (some 0)
def script_kindOf.f (k : Nat) (a0 : ByteArray) : Option (Int) := script_kindOf.l0 k a0 1
set_option maxHeartbeats 8000000 in
set_option maxRecDepth 100000 in
theorem script_kindOf.calls (k : Nat) (a0 : ByteArray) (r : Int) (w : World) (h : script_kindOf.f k a0 = some r) :
  Calls Tryz.prog 49 #[.string a0] w fun e w' => e = .returned (.int .i64 r) ∧ Below w.heap.size w w' := by
 have HB := Aside0.mk (Below.refl w.heap.size w)
 have H : (script_kindOf.l0 k a0 1) = some r := h
 clear h
 have H' := Aside0.mk H
 clear H
 go_enter Tryz.func49, Tryz.ntmps49
 go_wp2
 go_loopg [3] k (fun kq v3 w' => ∃ (x3_1 : Int), v3 = .int .i64 x3_1 ∧ Aside0 (script_kindOf.l0 kq a0 x3_1 = some r) ∧ Aside0 (kq ≤ k) ∧ Aside0 (Below w.heap.size w w'))
 case atStart => exact ⟨(1), (by first | rfl | (simp; done) | (simp [*]; done) | (simp; exact (fun l : List UInt8 => (by cases l <;> rfl : l.isEmpty = !(l != []))) _)), H', ⟨Nat.le_refl _⟩, ⟨by repeat (first | (with_reducible first | exact HB.out | apply below_alloc | apply pw_below_drewN | apply below_drew1) | exact HB.out)⟩⟩
 case round =>
  clear H'
  obtain ⟨x3_1, rfl, HA, HK1, HB⟩ := hrel
  cases gk with
  | zero => exact absurd HA.out (by simp [script_kindOf.l0])
  | succ k1 =>
   have H := HA.out
   clear HA
   simp only [script_kindOf.l0] at H
   by_cases c2 : x3_1 ≤ 11
   ·rw [if_pos c2] at H
    have c2b0 : decide (x3_1 ≤ 11) = true := decide_eq_true c2
    clear c2
    replace H := Option.bind_eq_some_iff.mp H
    obtain ⟨⟨t113, t114⟩, A30, H⟩ := H
    replace H : (if t113.toList = a0.toList then (some x3_1) else (script_kindOf.l0 k1 a0 (wrap64 (x3_1 + 1)))) = some r := H
    have A3 := Aside0.mk A30
    clear A30
    by_cases c4 : t113.toList = a0.toList
    ·rw [if_pos c4] at H
     have c4b0 : (t113.toList == a0.toList) = true := beq_iff_eq.mpr c4
     have c4b1 : (t113.toList != a0.toList) = false := bne_eq_false_iff_eq.mpr c4
     clear c4
     obtain rfl := Option.some.inj H
     go_wp2_with (first | ((with_reducible refine gate_callee (f := 50) rfl ?_); refine goesL_ (some 12) rfl rfl Tryz.func50 (by kernel_rfl) rfl #[.int .i64 x3_1] rfl (by (try simp only [List.map_toArray, List.map_cons, List.map_nil]); first | done | rfl | (simp only [List.length_drop, List.length_take]; rfl)) ?_; (with_reducible refine (script_form.calls x3_1 t113 t114 _ A3.out).mono ?_); rintro e w5 ⟨rfl, hb⟩; refine ⟨_, rfl, ?_⟩; have n0_ := Aside0.mk (below_step (by repeat (first | (with_reducible first | exact HB.out | apply below_alloc | apply pw_below_drewN | apply below_drew1) | exact HB.out)) hb); clear HB; have HB := n0_; clear n0_; (try clear hb); (try clear hb2); (try clear hk); (try clear hi)))
     go_ret
     exact ⟨by first | rfl | (simp [errW_none, errW_some] <;> rfl) | (simp [*, errW_none, errW_some] <;> rfl), by repeat (first | (with_reducible first | exact HB.out | apply below_alloc | apply pw_below_drewN | apply below_drew1) | exact HB.out)⟩
    ·rw [if_neg c4] at H
     have c4b0 : (t113.toList == a0.toList) = false := beq_eq_false_iff_ne.mpr c4
     have c4b1 : (t113.toList != a0.toList) = true := bne_iff_ne.mpr c4
     have H' := Aside0.mk H
     clear H
     go_wp2_with (first | ((with_reducible refine gate_callee (f := 50) rfl ?_); refine goesL_ (some 12) rfl rfl Tryz.func50 (by kernel_rfl) rfl #[.int .i64 x3_1] rfl (by (try simp only [List.map_toArray, List.map_cons, List.map_nil]); first | done | rfl | (simp only [List.length_drop, List.length_take]; rfl)) ?_; (with_reducible refine (script_form.calls x3_1 t113 t114 _ A3.out).mono ?_); rintro e w6 ⟨rfl, hb⟩; refine ⟨_, rfl, ?_⟩; have n0_ := Aside0.mk (below_step (by repeat (first | (with_reducible first | exact HB.out | apply below_alloc | apply pw_below_drewN | apply below_drew1) | exact HB.out)) hb); clear HB; have HB := n0_; clear n0_; (try clear hb); (try clear hb2); (try clear hk); (try clear hi)))
     go_roundg k1
     case measure => have := HK1.out; omega
     case rel => exact ⟨(wrap64 (x3_1 + 1)), (by first | rfl | (simp; done) | (simp [*]; done) | (simp; exact (fun l : List UInt8 => (by cases l <;> rfl : l.isEmpty = !(l != []))) _)), H', ⟨by have := HK1.out; omega⟩, ⟨by repeat (first | (with_reducible first | exact HB.out | apply below_alloc | apply pw_below_drewN | apply below_drew1) | exact HB.out)⟩⟩
   ·rw [if_neg c2] at H
    have c2b0 : decide (x3_1 ≤ 11) = false := decide_eq_false c2
    clear c2
    obtain rfl := Option.some.inj H
    go_wp2
    go_ret
    exact ⟨by first | rfl | (simp [errW_none, errW_some] <;> rfl) | (simp [*, errW_none, errW_some] <;> rfl), by repeat (first | (with_reducible first | exact HB.out | apply below_alloc | apply pw_below_drewN | apply below_drew1) | exact HB.out)⟩

end Go.Proofs.YtndgaeldndgioaaGreatDoor.QAll
end

section
/- script.read, walked by hand: the event of a line, and whether there is one. -/
set_option linter.unusedVariables false
set_option linter.unusedSimpArgs false
namespace Go.Proofs.YtndgaeldndgioaaGreatDoor.QAll
open Go.RowKit Go.Proofs.YtndgaeldndgioaaGreatDoorW.PrintWords Go.Proofs.YtndgaeldndgioaaGreatDoorW.PrintLast Go.Proofs.YtndgaeldndgioaaGreatDoorW.PrintMore
open Go.Proofs.YtndgaeldndgioaaGreatDoor.Fl
attribute [local go_sem] run_store_complex
/-- The letters' words set, one by one: the event, if each can be. -/
def readL : List UInt8 → List ByteArray → Ev → Option (Option Ev)
  | [], _, e => some (some e)
  | _ :: _, [], _ => none
  | c :: cs, wd :: ws, e => (setC e (c.toNat : Int) wd).bind fun p => if p.2 = true then readL cs ws p.1 else some none
def ev0 (k : Int) : Ev := ⟨k, 0, 0, 0, 0, ⟨#[]⟩, 0, 0, []⟩
/-- What read tells of the words, when the letters are as many. -/
def readG (k : Nat) (ws : List ByteArray) : Option (Ev × Bool) :=
  if (lettersOf k).size = 0 ∨ (lettersOf k).size ≠ ws.length then some (ev0 0, false)
  else (readL (lettersOf k).data.toList ws (ev0 k)).map fun r => match r with
    | none => (ev0 0, false)
    | some e => (e, true)
theorem fl_0 : fl 0 = 0 := by kernel_rfl
theorem eight_set {w : World} {g : Nat} {a b c d e f h i a' b' c' d' e' f' h' i' : Value} {t : TypeId} (hw : w.heap[g]? = some (.cells #[a, b, c, d, e, f, h, i] t (0, 0))) :
    ((((((((w.setCell ⟨g, 0, none⟩ a').setCell ⟨g, 1, none⟩ b').setCell ⟨g, 2, none⟩ c').setCell ⟨g, 3, none⟩ d').setCell ⟨g, 4, none⟩ e').setCell ⟨g, 5, none⟩ f').setCell ⟨g, 6, none⟩ h').setCell ⟨g, 7, none⟩ i').heap[g]? = some (.cells #[a', b', c', d', e', f', h', i'] t (0, 0)) := by
  simp [World.setCell, Array.getElem?_modify, hw]
theorem EB_next {gi B g : Nat} {lt : ByteArray} {j : Nat} {e : Ev} {W : World} (h : EB (gi, .stringIter lt j) B g e W) : EB (gi, .stringIter lt (j + 1)) B g e (W.iterAt gi lt (j + 1)) := by
  obtain ⟨v, h1, h2, h3, h4, h5⟩ := h
  have hne : g ≠ gi := by have : g < gi := h5; omega
  exact ⟨v, Kd.R_step h1 (fun k hk _ => Lib.iterAt_other W gi k lt (j + 1) hk.2), (Lib.iterAt_other W gi _ lt (j + 1) hne).trans h2, h3, Lib.iterAt_heap W gi lt j (j + 1) h4, h5⟩
theorem R_ev0 (w : World) (B : Nat) : (Kd.int .u8).R 5 w B (fun _ => True) (.slice none (ev0 0).d.length 0) (ev0 0).d := Kd.R_nil _ _ _ _ _
theorem evV_0 : evV (ev0 0) none 0 = .agg #[.int .i64 0, .int .i64 0, .int .i64 0, .int .i64 0, .int .i64 0, .string ⟨#[]⟩, .complex .f64 0 0, .slice none 0 0] := by
  unfold evV ev0
  simp only [fl_0]
  rfl
theorem below_sets {B : Nat} {w W : World} {h : Nat} (hb : Below B w W) (hB : B ≤ h) (a b c d e f i j : Value) : Below B w ((((((((W.setCell ⟨h, 0, none⟩ a).setCell ⟨h, 1, none⟩ b).setCell ⟨h, 2, none⟩ c).setCell ⟨h, 3, none⟩ d).setCell ⟨h, 4, none⟩ e).setCell ⟨h, 5, none⟩ f).setCell ⟨h, 6, none⟩ i).setCell ⟨h, 7, none⟩ j) :=
  (((((((hb.setCell (p := ⟨h, 0, none⟩) hB a).setCell (p := ⟨h, 1, none⟩) hB b).setCell (p := ⟨h, 2, none⟩) hB c).setCell (p := ⟨h, 3, none⟩) hB d).setCell (p := ⟨h, 4, none⟩) hB e).setCell (p := ⟨h, 5, none⟩) hB f).setCell (p := ⟨h, 6, none⟩) hB i).setCell (p := ⟨h, 7, none⟩) hB j
theorem R_sets {B : Nat} {W : World} {h : Nat} {ok : Nat → Prop} {v : Value} {xs : List Int} (hR : (Kd.int .u8).R 5 W B ok v xs) (hB : h < B) (a b c' d e f i j : Value) : (Kd.int .u8).R 5 ((((((((W.setCell ⟨h, 0, none⟩ a).setCell ⟨h, 1, none⟩ b).setCell ⟨h, 2, none⟩ c').setCell ⟨h, 3, none⟩ d).setCell ⟨h, 4, none⟩ e).setCell ⟨h, 5, none⟩ f).setCell ⟨h, 6, none⟩ i).setCell ⟨h, 7, none⟩ j) h (fun _ => True) v xs := by
  have h0 := Kd.R_mono (ok' := fun k => k ≠ h) (Kd.R_bound hR) (fun k hk => by have := hk.2.1; omega)
  exact Kd.R_lower (Kd.R_mono (Kd.R_far (Kd.R_far (Kd.R_far (Kd.R_far (Kd.R_far (Kd.R_far (Kd.R_far (Kd.R_far h0 (p := ⟨h, 0, none⟩) (fun k hk => hk) a) (p := ⟨h, 1, none⟩) (fun k hk => hk) b) (p := ⟨h, 2, none⟩) (fun k hk => hk) c') (p := ⟨h, 3, none⟩) (fun k hk => hk) d) (p := ⟨h, 4, none⟩) (fun k hk => hk) e) (p := ⟨h, 5, none⟩) (fun k hk => hk) f) (p := ⟨h, 6, none⟩) (fun k hk => hk) i) (p := ⟨h, 7, none⟩) (fun k hk => hk) j) (fun _ _ => trivial)) (Nat.le_of_lt hB)
set_option maxHeartbeats 8000000 in
set_option maxRecDepth 100000 in
theorem read_core (s l0 : ByteArray) (ws : List ByteArray) (K k : Nat) (out : Ev × Bool) (w : World) (hE : EnvW w) (hs : s.size ≤ 1000000) (hsp : splitS s ⟨#[32]⟩ = l0 :: ws) (hk : script_kindOf.f K l0 = some (k : Int)) (hk12 : k < 12) (hr : readG k ws = some out) :
    Calls Tryz.prog 16 #[.string s] w fun r w' => ∃ A c, r = .returned (.tuple #[evV out.1 A c, .bool out.2]) ∧ (Kd.int .u8).R 5 w' w.heap.size (fun _ => True) (.slice A out.1.d.length c) out.1.d ∧ Below w.heap.size w w' := by
  have hsp1 : strings_Split.f s ⟨#[32]⟩ = some (l0 :: ws) := by
    unfold strings_Split.f
    rw [if_pos ⟨by show 1 ≤ 1; omega, hs⟩, hsp]
  have HS := Aside0.mk hsp1
  have HK := Aside0.mk hk
  have HG := Aside0.mk hr
  have HF := Aside0.mk (form_at k hk12)
  have HA := Aside0.mk (lett_ascii k hk12)
  have hlz := lett_size k hk12
  clear hsp1 hsp hk hr
  go_enter Tryz.func16, Tryz.ntmps16
  go_wp2_with (fail)
  (with_reducible refine (strings_Split.calls s ⟨#[32]⟩ _ _ (hE.below ((Below.refl _ _).alloc (Nat.le_refl _) _)) HS.out).mono ?_)
  rintro e w2 ⟨v0, rfl, hR, hb2⟩
  have HX2 := Aside0.mk ((hb2.block w.heap.size (by simp)).trans (heap_alloc_new w _))
  have HB2 := Aside0.mk (below_step ((Below.refl w.heap.size w).alloc (Nat.le_refl _) _) hb2)
  have HZ2 := Aside0.mk (show w.heap.size < w2.heap.size from Nat.lt_of_lt_of_le (by simp) hb2.size)
  clear hb2
  obtain ⟨A6, c6, rfl, hc6, hC6⟩ := Kd.R_reads hR
  have HV2 := Aside0.mk (Kd.V_bound (Kd.R_V (base' := 0) hR))
  clear hR
  have hmx := Kd.C_max hC6
  rw [List.length_cons] at hmx
  obtain ⟨ad, hA, hx⟩ := Kd.at_string hC6 0 (by omega) (by simp)
  subst hA
  rw [show rdOf ByteArray.empty (l0 :: ws) 0 = l0 from rfl, show ((0 : Int)).toNat = 0 from rfl, Addr.add_zero'] at hx
  go_wp2_with (fail)
  (with_reducible refine (script_kindOf.calls K l0 k _ HK.out).mono ?_)
  rintro e w3 ⟨rfl, hb3⟩
  have HX3 := Aside0.mk ((hb3.block _ HZ2.out).trans HX2.out)
  have HB3 := Aside0.mk (below_then HB2.out (Nat.le_of_lt HZ2.out) hb3)
  have HV3 := Aside0.mk (Kd.V_below HV2.out hb3)
  have HZ3 := Aside0.mk (show w.heap.size < w3.heap.size from Nat.lt_of_lt_of_le HZ2.out hb3.size)
  have HW3 := Aside0.mk (show w2.heap.size ≤ w3.heap.size from hb3.size)
  clear hb3 HX2 HB2 HV2 hC6 hx hc6
  go_wp2_with (fail)
  (with_reducible refine (script_form.calls k (nameOf k) (lettersOf k) _ HF.out).mono ?_)
  rintro e w4 ⟨rfl, hb4⟩
  have HX4 := Aside0.mk ((hb4.block w.heap.size (by have := HZ3.out; simp; omega)).trans ((Below.heap_alloc _ _ _ HZ3.out).trans HX3.out))
  have HB4 := Aside0.mk (below_then (HB3.out.alloc (Nat.le_of_lt HZ3.out) (.cells #[.int .i64 (k : Int), .int .i64 0, .int .i64 0, .int .i64 0, .int .i64 0, .string ⟨#[]⟩, .complex .f64 0 0, .slice none 0 0] 26 (0, 0))) (by have := HZ3.out; simp; omega) hb4)
  have HV4 := Aside0.mk (Kd.V_below (Kd.V_alloc HV3.out (.cells #[.int .i64 (k : Int), .int .i64 0, .int .i64 0, .int .i64 0, .int .i64 0, .string ⟨#[]⟩, .complex .f64 0 0, .slice none 0 0] 26 (0, 0))) hb4)
  have HG4 := Aside0.mk ((hb4.block w3.heap.size (by simp)).trans (heap_alloc_new w3 (.cells #[.int .i64 (k : Int), .int .i64 0, .int .i64 0, .int .i64 0, .int .i64 0, .string ⟨#[]⟩, .complex .f64 0 0, .slice none 0 0] 26 (0, 0))))
  have HL4 := Aside0.mk (show w3.heap.size < w4.heap.size from Nat.lt_of_lt_of_le (by simp) hb4.size)
  clear hb4 HX3 HB3 HV3
  have hg := HG.out
  unfold readG at hg
  by_cases hz : (lettersOf k).size = 0
  · rw [if_pos (Or.inl hz)] at hg
    have hemp : ((lettersOf k).toList == []) = true := by
      rw [Go.ByteArray.toList_eq]
      have : (lettersOf k).data.toList.length = 0 := by simpa using hz
      rw [List.length_eq_zero_iff.1 this]
      rfl
    obtain rfl := Option.some.inj hg
    clear hg
    obtain ⟨k0, k1, k2, k3, k4, k5, k6, k7⟩ := cells8 HX4.out
    have f0 := Lib.frozen_of_heap HX4.out 0
    have f1 := Lib.frozen_of_heap HX4.out 1
    have f2 := Lib.frozen_of_heap HX4.out 2
    have f3 := Lib.frozen_of_heap HX4.out 3
    have f4 := Lib.frozen_of_heap HX4.out 4
    have f5 := Lib.frozen_of_heap HX4.out 5
    have f6 := Lib.frozen_of_heap HX4.out 6
    have f7 := Lib.frozen_of_heap HX4.out 7
    go_wp2_with (fail)
    refine bodyPost_ret (results_ct rfl _ _ w.heap.size 26 #[.int .i64 0, .int .i64 0, .int .i64 0, .int .i64 0, .int .i64 0, .string ⟨#[]⟩, .complex .f64 0 0, .slice none 0 0] (0, 0) _ rfl ?hc Tryz.underlying26 rfl (by kernel_rfl)) rfl ?_
    case hc => exact eight_set HX4.out
    exact ⟨none, 0, by rw [evV_0]; rfl, R_ev0 _ _, below_sets HB4.out (Nat.le_refl _) _ _ _ _ _ _ _ _⟩
  have hemp : ((lettersOf k).toList == []) = false := by
    rw [Go.ByteArray.toList_eq]
    have : (lettersOf k).data.toList.length = (lettersOf k).size := by simp
    cases hq : (lettersOf k).data.toList with
    | nil => rw [hq] at this; exact absurd this.symm hz
    | cons _ _ => rfl
  by_cases hl : (lettersOf k).size = ws.length
  case neg =>
    rw [if_pos (Or.inr hl)] at hg
    have hne : ((((lettersOf k).size : Nat) : Int) != wrap64 ((ws.length : Nat) : Int)) = true := bne_iff_ne.2 (by unfold wrap64; omega)
    obtain rfl := Option.some.inj hg
    clear hg
    obtain ⟨k0, k1, k2, k3, k4, k5, k6, k7⟩ := cells8 HX4.out
    have f0 := Lib.frozen_of_heap HX4.out 0
    have f1 := Lib.frozen_of_heap HX4.out 1
    have f2 := Lib.frozen_of_heap HX4.out 2
    have f3 := Lib.frozen_of_heap HX4.out 3
    have f4 := Lib.frozen_of_heap HX4.out 4
    have f5 := Lib.frozen_of_heap HX4.out 5
    have f6 := Lib.frozen_of_heap HX4.out 6
    have f7 := Lib.frozen_of_heap HX4.out 7
    go_wp2_with (fail)
    refine bodyPost_ret (results_ct rfl _ _ w.heap.size 26 #[.int .i64 0, .int .i64 0, .int .i64 0, .int .i64 0, .int .i64 0, .string ⟨#[]⟩, .complex .f64 0 0, .slice none 0 0] (0, 0) _ rfl ?hc Tryz.underlying26 rfl (by kernel_rfl)) rfl ?_
    case hc => exact eight_set HX4.out
    exact ⟨none, 0, by rw [evV_0]; rfl, R_ev0 _ _, below_sets HB4.out (Nat.le_refl _) _ _ _ _ _ _ _ _⟩
  rw [if_neg (by omega)] at hg
  obtain ⟨res, hres, hout⟩ := Option.map_eq_some_iff.1 hg
  have HRes := Aside0.mk hres
  clear hg hres
  have hne : ((((lettersOf k).size : Nat) : Int) != wrap64 ((ws.length : Nat) : Int)) = false := by rw [bne_eq_false_iff_eq]; unfold wrap64; omega
  clear hmx
  generalize lettersOf k = lt at *
  go_wp2_with (fail)
  have HN := Aside0.mk (show EB (w4.heap.size, .stringIter lt 0) w3.heap.size w3.heap.size (ev0 k) (w4.iter lt 0) ∧ (w4.iter lt 0).heap[w.heap.size]? = some (.cells #[.int .i64 0, .int .i64 0, .int .i64 0, .int .i64 0, .int .i64 0, .string ⟨#[]⟩, .complex .f64 0 0, .slice none 0 0] 26 (0, 0)) ∧ Below w.heap.size w (w4.iter lt 0) ∧ Kd.V Kd.string 9 (w4.iter lt 0) 0 (fun i => True ∧ i < w2.heap.size) (.slice (some ad) (l0 :: ws).length c6) (l0 :: ws) from ⟨⟨.slice none 0 0, Kd.R_nil _ _ _ _ _, (Below.heap_alloc _ _ _ HL4.out).trans (by rw [HG4.out]; simp only [ev0, fl_0]), Nat.le_refl _, World.iter_heap w4 lt 0, HL4.out⟩, (Below.heap_alloc _ _ _ (Nat.lt_trans HZ3.out HL4.out)).trans HX4.out, HB4.out.alloc (Nat.le_of_lt (Nat.lt_trans HZ3.out HL4.out)) _, Kd.V_alloc HV4.out _⟩)
  clear hne
  have hgi : w.heap.size < w3.heap.size := HZ3.out
  have hw23 : w2.heap.size ≤ w3.heap.size := HW3.out
  clear HX4 HB4 HV4 HG4 HL4
  generalize w4.iter lt 0 = w5 at HN ⊢
  generalize w4.heap.size = gi at HN ⊢
  generalize w3.heap.size = g at HN hgi hw23 ⊢
  go_loopw [] (fun wr => ∃ (j : Nat) (e : Ev), j ≤ lt.size ∧ Aside0 (readL (lt.data.toList.drop j) (ws.drop j) e = some res) ∧ Aside0 (EB (gi, .stringIter lt j) g g e wr ∧ wr.heap[w.heap.size]? = some (.cells #[.int .i64 0, .int .i64 0, .int .i64 0, .int .i64 0, .int .i64 0, .string ⟨#[]⟩, .complex .f64 0 0, .slice none 0 0] 26 (0, 0)) ∧ Below w.heap.size w wr ∧ Kd.V Kd.string 9 wr 0 (fun i => True ∧ i < w2.heap.size) (.slice (some ad) (l0 :: ws).length c6) (l0 :: ws))) (fun wr => lt.size - wr.iterPos gi)
  case atStart => exact ⟨0, ev0 k, Nat.zero_le _, HRes, HN⟩
  case round =>
    obtain ⟨j, e, hj, HRj, HNj⟩ := hrel
    clear HN HRes
    have hit : wr.heap[gi]? = some (.stringIter lt j) := by obtain ⟨_, _, _, _, h, _⟩ := HNj.out.1; exact h
    by_cases hlt : j < lt.size
    · have hjw : j < ws.length := hl ▸ hlt
      have hnx := fun (ty : TypeId) => Lib.run_next_ascii_at (P := Tryz.prog) wr gi lt j ty hit hlt (HA.out j hlt)
      have hip : wr.iterPos gi = j := iterPos_of hit
      have hggi : g < gi := by obtain ⟨_, _, _, _, _, h⟩ := HNj.out.1; exact h
      have HE := Aside0.mk (EB_next HNj.out.1)
      have HX := Aside0.mk ((Lib.iterAt_other wr gi w.heap.size lt (j + 1) (by omega)).trans HNj.out.2.1)
      have HB : Aside0 (Below w.heap.size w (wr.iterAt gi lt (j + 1))) := ⟨Lib.below_iterAt HNj.out.2.2.1 (by omega) lt (j + 1)⟩
      have HV := Aside0.mk (Kd.V_step HNj.out.2.2.2 (fun i hi _ => Lib.iterAt_other wr gi i lt (j + 1) (by have := hi.2; omega)))
      clear HNj hit
      have hdr : lt.data.toList.drop j = lt[j]'hlt :: lt.data.toList.drop (j + 1) := by
        rw [List.drop_eq_getElem_cons (by simpa using hlt)]
        rfl
      have hdw : ws.drop j = ws[j]'hjw :: ws.drop (j + 1) := List.drop_eq_getElem_cons hjw
      have hl := HRj.out
      rw [hdr, hdw, readL] at hl
      obtain ⟨p, hp, hrest⟩ := Option.bind_eq_some_iff.1 hl
      have HRest := Aside0.mk hrest
      have HP := Aside0.mk hp
      clear hl hrest hp hdr hdw HRj
      obtain ⟨hn1, hn2, hcj⟩ := Kd.V_reads' HV.out
      obtain ⟨ad', hA', hx⟩ := Kd.at_string hcj ((j + 1 : Nat) : Int) (by omega) (by simp; omega)
      obtain rfl := Option.some.inj hA'
      rw [Int.toNat_natCast, show rdOf ByteArray.empty (l0 :: ws) ((j + 1 : Nat) : Int) = ws[j]'hjw by (unfold rdOf; rw [Int.toNat_natCast, List.getD_cons_succ, List.getD_eq_getElem?_getD, List.getElem?_eq_getElem hjw]; rfl)] at hx
      rw [Addr.add, if_neg (by omega)] at hx
      clear hn1 hn2 hcj
      have hbj : ((j : Int) + 1 < (ws.length : Int) + 1) = True := eq_true (by omega)
      have hb0 : ((j : Int) + 1 < 0) = False := eq_false (by omega)
      go_wp2_with (first | rw [hnx] | (go_at_call 51; fail))
      (with_reducible refine (set_calls g g e p.1 ((lt[j]'hlt).toNat : Int) (ws[j]'hjw) p.2 _ (hE.below HB.out) HE.out HP.out).mono ?_)
      rintro r w7 ⟨rfl, hEB7, hb7⟩
      clear hbj hb0
      have HE7 := Aside0.mk hEB7
      have HX7 := Aside0.mk ((hb7.block w.heap.size hgi).trans HX.out)
      have HB7 := Aside0.mk (HB.out.trans (hb7.mono (Nat.le_of_lt hgi)))
      have HV7 := Aside0.mk (Kd.V_step HV.out (fun i hi _ => hb7.block i (by have := hi.2; omega)))
      clear HE HX HB HV hEB7 hb7 hx HP hnx
      cases hp2 : p.2 with
      | true =>
        have hre := HRest.out
        rw [hp2, if_pos rfl] at hre
        have HRe := Aside0.mk hre
        clear hre HRest
        go_wp2_with (fail)
        go_roundw
        case rel => exact ⟨j + 1, p.1, by omega, HRe, ⟨HE7.out, HX7.out, HB7.out, HV7.out⟩⟩
        case measure =>
          have : w7.iterPos gi = j + 1 := by obtain ⟨_, _, _, _, h, _⟩ := HE7.out; exact iterPos_of h
          omega
      | false =>
        have hre := HRest.out
        rw [hp2, if_neg (by decide)] at hre
        obtain rfl := Option.some.inj hre
        subst hout
        clear hre HRest
        obtain ⟨k0, k1, k2, k3, k4, k5, k6, k7⟩ := cells8 HX7.out
        have f0 := Lib.frozen_of_heap HX7.out 0
        have f1 := Lib.frozen_of_heap HX7.out 1
        have f2 := Lib.frozen_of_heap HX7.out 2
        have f3 := Lib.frozen_of_heap HX7.out 3
        have f4 := Lib.frozen_of_heap HX7.out 4
        have f5 := Lib.frozen_of_heap HX7.out 5
        have f6 := Lib.frozen_of_heap HX7.out 6
        have f7 := Lib.frozen_of_heap HX7.out 7
        go_wp2_with (fail)
        refine bodyPost_ret (results_ct rfl _ _ w.heap.size 26 #[.int .i64 0, .int .i64 0, .int .i64 0, .int .i64 0, .int .i64 0, .string ⟨#[]⟩, .complex .f64 0 0, .slice none 0 0] (0, 0) _ rfl ?hc Tryz.underlying26 rfl (by kernel_rfl)) rfl ?_
        case hc => exact eight_set HX7.out
        exact ⟨none, 0, by rw [evV_0]; rfl, R_ev0 _ _, below_sets HB7.out (Nat.le_refl _) _ _ _ _ _ _ _ _⟩
    · obtain rfl : j = lt.size := by omega
      have hnx := fun (ty : TypeId) => Lib.run_next_end_at (P := Tryz.prog) wr gi lt lt.size ty hit hlt
      have hre := HRj.out
      rw [List.drop_of_length_le (by simp), readL] at hre
      obtain rfl := Option.some.inj hre
      obtain ⟨v, q1, q2, q3⟩ := HNj.out.1
      obtain ⟨A, c, rfl, hc, hC⟩ := Kd.R_reads q1
      have HC := Aside0.mk q1
      have HX := Aside0.mk HNj.out.2.1
      have HB := Aside0.mk HNj.out.2.2.1
      obtain ⟨k0, k1, k2, k3, k4, k5, k6, k7⟩ := cells8 HX.out
      obtain ⟨e0, e1, e2, e3, e4, e5, e6, e7⟩ := cells8 q2
      have f0 := Lib.frozen_of_heap HX.out 0
      have f1 := Lib.frozen_of_heap HX.out 1
      have f2 := Lib.frozen_of_heap HX.out 2
      have f3 := Lib.frozen_of_heap HX.out 3
      have f4 := Lib.frozen_of_heap HX.out 4
      have f5 := Lib.frozen_of_heap HX.out 5
      have f6 := Lib.frozen_of_heap HX.out 6
      have f7 := Lib.frozen_of_heap HX.out 7
      clear HNj hit hre HRj q1 q2 q3 hC hc
      go_wp2_with (first | rw [hnx])
      refine bodyPost_ret (results_ct rfl _ _ w.heap.size 26 #[.int .i64 e.k, .int .i64 e.a, .int .i64 e.b, .int .i64 e.n, .int .i64 e.m, .string e.s, .complex .f64 (fl e.x) (fl e.y), .slice A e.d.length c] (0, 0) _ rfl ?hc Tryz.underlying26 rfl (by kernel_rfl)) rfl ?_
      case hc => exact eight_set HX.out
      subst hout
      exact ⟨A, c, rfl, R_sets HC.out hgi _ _ _ _ _ _ _ _, below_sets HB.out (Nat.le_refl _) _ _ _ _ _ _ _ _⟩
end Go.Proofs.YtndgaeldndgioaaGreatDoor.QAll
end

section
/- script.Right and script.Print of an event that read has told, walked by hand. -/
set_option linter.unusedVariables false
set_option linter.unusedSimpArgs false
namespace Go.Proofs.YtndgaeldndgioaaGreatDoor.QAll
open Go.RowKit Go.Proofs.YtndgaeldndgioaaGreatDoorW.PrintWords Go.Proofs.YtndgaeldndgioaaGreatDoorW.PrintLast Go.Proofs.YtndgaeldndgioaaGreatDoorW.PrintMore
open Go.Proofs.YtndgaeldndgioaaGreatDoor.Fl
attribute [local go_sem] run_store_complex
/-- What the walks ask: the event's own line, and that the line is read as the event. -/
structure Told (e : Ev) (k : Nat) (ln : ByteArray) (ok : Bool) : Prop where
  k0 : 0 < k
  k12 : k < 12
  ek : e.k = k
  good : EvOk e
  line : ∃ res, lineL e (lettersOf k).data.toList [nameOf k] = some res ∧ lineR res = some (ln, ok)
  back : ok = true → ∃ l0 ws K, ln.size ≤ 1000000 ∧ splitS ln ⟨#[32]⟩ = l0 :: ws ∧ script_kindOf.f K l0 = some (k : Int) ∧ readG k ws = some (e, true)
/-- The block of an event that lies in memory, and its draws. -/
structure BX (w0 : World) (g : Nat) (e : Ev) (A : Option Addr) (c : Nat) (W : World) : Prop where
  b : Below w0.heap.size w0 W
  h : W.heap[g]? = some (.cells #[.int .i64 e.k, .int .i64 e.a, .int .i64 e.b, .int .i64 e.n, .int .i64 e.m, .string e.s, .complex .f64 (fl e.x) (fl e.y), .slice A e.d.length c] 26 (0, 0))
  d : (Kd.int .u8).C W A e.d.length e.d
  l : g < W.heap.size
theorem BX_below {w0 W W' : World} {g : Nat} {e : Ev} {A : Option Addr} {c : Nat} (h : BX w0 g e A c W) (hb : Below W.heap.size W W') : BX w0 g e A c W' :=
  ⟨below_then h.b h.b.size hb, (hb.block _ h.l).trans h.h, Kd.C_below h.d hb, Nat.lt_of_lt_of_le h.l hb.size⟩
theorem BX_alloc {w0 W : World} {g : Nat} {e : Ev} {A : Option Addr} {c : Nat} (h : BX w0 g e A c W) (o : Obj) : BX w0 g e A c (W.alloc o) :=
  BX_below h ((Below.refl _ _).alloc (Nat.le_refl _) o)
set_option maxHeartbeats 8000000 in
set_option maxRecDepth 100000 in
theorem right_told (e : Ev) (k : Nat) (ln : ByteArray) (ok : Bool) (A : Option Addr) (c : Nat) (w : World) (hE : EnvW w) (hT : Told e k ln ok) (hd : (Kd.int .u8).C w A e.d.length e.d) :
    Calls Tryz.prog 47 #[evV e A c] w fun r w' => r = .returned (.bool ok) ∧ Below w.heap.size w w' := by
  have HT := Aside0.mk hT
  have HE := Aside0.mk hE
  obtain ⟨res, hl1, hl2⟩ := HT.out.line
  have HL := Aside0.mk (fun (W : World) (h : BX w w.heap.size e A c W) => line_calls e A c k hT.k0 hT.k12 hT.ek res ln ok W (hE.below h.b) hT.good h.d hl1 hl2)
  have HB := Aside0.mk (show BX w w.heap.size e A c (w.alloc (.cells #[.int .i64 e.k, .int .i64 e.a, .int .i64 e.b, .int .i64 e.n, .int .i64 e.m, .string e.s, .complex .f64 (fl e.x) (fl e.y), .slice A e.d.length c] 26 (0, 0))) from ⟨(Below.refl _ _).alloc (Nat.le_refl _) _, heap_alloc_new w _, Kd.C_alloc hd _, by simp⟩)
  clear hT hd hE hl1 hl2
  unfold evV at HL ⊢
  go_enter Tryz.func47, Tryz.ntmps47
  go_wp2_with (fail)
  (with_reducible refine (HL.out _ HB.out).mono ?_)
  rintro r w2 ⟨rfl, hb2⟩
  have HB2 := Aside0.mk (BX_below HB.out hb2)
  clear HB hb2
  cases ok with
  | false =>
    go_wp2_with (fail)
    go_ret
    exact ⟨rfl, HB2.out.b⟩
  | true =>
    obtain ⟨l0, ws, K, hz, hsp, hko, hrg⟩ := HT.out.back rfl
    go_wp2_with (fail)
    (with_reducible refine (read_core ln l0 ws K k (e, true) w2 (HE.out.below HB2.out.b) hz hsp hko HT.out.k12 hrg).mono ?_)
    rintro r w3 ⟨A', c', rfl, hC', hb3⟩
    have HB3 := Aside0.mk (BX_below HB2.out hb3)
    have HC3 := Aside0.mk (Kd.R_reads' hC').2.2
    clear HB2 hb3 hC'
    unfold evV
    have HB4 := Aside0.mk (BX_alloc HB3.out (.cells #[.int .i64 e.k, .int .i64 e.a, .int .i64 e.b, .int .i64 e.n, .int .i64 e.m, .string e.s, .complex .f64 (fl e.x) (fl e.y), .slice A' e.d.length c'] 26 (0, 0)))
    have hS := same_calls e A' A c' c (w3.alloc (.cells #[.int .i64 e.k, .int .i64 e.a, .int .i64 e.b, .int .i64 e.n, .int .i64 e.m, .string e.s, .complex .f64 (fl e.x) (fl e.y), .slice A' e.d.length c'] 26 (0, 0))) HT.out.good.inr (Kd.C_alloc HC3.out _) HB4.out.d
    unfold evV at hS
    have HS := Aside0.mk hS
    clear hS
    obtain ⟨k0, k1, k2, k3, k4, k5, k6, k7⟩ := cells8 HB4.out.h
    go_wp2_with (fail)
    (with_reducible refine HS.out.mono ?_)
    rintro r w5 ⟨rfl, hb5⟩
    have HB5 := Aside0.mk (BX_below HB4.out hb5)
    go_wp2_with (fail)
    go_ret
    exact ⟨rfl, HB5.out.b⟩
set_option maxHeartbeats 8000000 in
set_option maxRecDepth 100000 in
theorem print_told (e : Ev) (k : Nat) (ln : ByteArray) (ok : Bool) (A : Option Addr) (c : Nat) (w : World) (hE : EnvW w) (hT : Told e k ln ok) (hd : (Kd.int .u8).C w A e.d.length e.d) :
    Calls Tryz.prog 15 #[evV e A c] w fun r w' => r = .returned (.string (if ok = true then ln else ⟨#[]⟩)) ∧ Below w.heap.size w w' := by
  have HT := Aside0.mk hT
  obtain ⟨res, hl1, hl2⟩ := HT.out.line
  have HL := Aside0.mk (fun (W : World) (h : BX w w.heap.size e A c W) => line_calls e A c k hT.k0 hT.k12 hT.ek res ln ok W (hE.below h.b) hT.good h.d hl1 hl2)
  have HR := Aside0.mk (fun (W : World) (h : BX w w.heap.size e A c W) => right_told e k ln ok A c W (hE.below h.b) hT h.d)
  have HB := Aside0.mk (show BX w w.heap.size e A c (w.alloc (.cells #[.int .i64 e.k, .int .i64 e.a, .int .i64 e.b, .int .i64 e.n, .int .i64 e.m, .string e.s, .complex .f64 (fl e.x) (fl e.y), .slice A e.d.length c] 26 (0, 0))) from ⟨(Below.refl _ _).alloc (Nat.le_refl _) _, heap_alloc_new w _, Kd.C_alloc hd _, by simp⟩)
  clear hT hd hE hl1 hl2
  unfold evV at HL HR ⊢
  go_enter Tryz.func15, Tryz.ntmps15
  go_wp2_with (fail)
  (with_reducible refine (HR.out _ HB.out).mono ?_)
  rintro r w2 ⟨rfl, hb2⟩
  have HB2 := Aside0.mk (BX_below HB.out hb2)
  clear HB hb2
  cases ok with
  | false =>
    go_wp2_with (fail)
    go_ret
    exact ⟨rfl, HB2.out.b⟩
  | true =>
    obtain ⟨k0, k1, k2, k3, k4, k5, k6, k7⟩ := cells8 HB2.out.h
    go_wp2_with (fail)
    (with_reducible refine (HL.out _ HB2.out).mono ?_)
    rintro r w3 ⟨rfl, hb3⟩
    have HB3 := Aside0.mk (BX_below HB2.out hb3)
    go_wp2_with (fail)
    go_ret
    exact ⟨rfl, HB3.out.b⟩
end Go.Proofs.YtndgaeldndgioaaGreatDoor.QAll
end

section
/- What script.set and script.word make of each other's words, plainly. -/
set_option linter.unusedVariables false
set_option linter.unusedSimpArgs false
set_option maxHeartbeats 1000000
namespace Go.Proofs.YtndgaeldndgioaaGreatDoor.Pure
open Go.RowKit Go.Proofs.YtndgaeldndgioaaGreatDoor.QAll Go.Proofs.YtndgaeldndgioaaGreatDoorW.PrintWords Go.Proofs.YtndgaeldndgioaaGreatDoorW.PrintLast
theorem pre_app (c : UInt8) (t : ByteArray) (h : t.size ≤ 1000000) : stringslite_HasPrefix.f ((⟨#[c]⟩ : ByteArray) ++ t) ⟨#[c]⟩ = some true := by
  have h1 : (⟨#[c]⟩ : ByteArray).size = 1 := rfl
  unfold stringslite_HasPrefix.f
  rw [ByteArray.size_append, h1, if_pos (by omega), if_pos (by omega), if_pos (by omega)]
  congr 1
  rw [beq_iff_eq, toList_ext, toList_app, Go.ByteArray.toList_eq, Go.ByteArray.toList_eq]
  rfl
theorem ext_app (c : UInt8) (t : ByteArray) : ((⟨#[c]⟩ : ByteArray) ++ t).extract 1 ((⟨#[c]⟩ : ByteArray) ++ t).size = t := by
  apply ba_eq
  rw [toList_ext, ← len_eq, List.take_length, toList_app, Go.ByteArray.toList_eq ⟨#[c]⟩]
  rfl
theorem trim_app (c : UInt8) (t : ByteArray) (h : t.size ≤ 1000000) : strings_TrimPrefix.f ((⟨#[c]⟩ : ByteArray) ++ t) ⟨#[c]⟩ = some t := by
  have h1 : (⟨#[c]⟩ : ByteArray).size = 1 := rfl
  unfold strings_TrimPrefix.f stringslite_TrimPrefix.f
  rw [pre_app c t h]
  simp only [Option.bind_some]
  rw [if_pos trivial, h1, if_pos (by omega), if_pos (by rw [ByteArray.size_append, h1]; omega)]
  show some (((⟨#[c]⟩ : ByteArray) ++ t).extract 1 _) = _
  rw [ext_app]
theorem has_app (c : UInt8) (t : ByteArray) (h : t.size ≤ 1000000) : strings_HasPrefix.f ((⟨#[c]⟩ : ByteArray) ++ t) ⟨#[c]⟩ = some true := by
  unfold strings_HasPrefix.f
  rw [pre_app c t h]
  rfl
theorem cut_app (c : UInt8) (t : ByteArray) (h : t.size ≤ 1000000) : strings_CutPrefix.f ((⟨#[c]⟩ : ByteArray) ++ t) ⟨#[c]⟩ = some (t, true) := by
  have h1 : (⟨#[c]⟩ : ByteArray).size = 1 := rfl
  unfold strings_CutPrefix.f stringslite_CutPrefix.f
  rw [pre_app c t h]
  simp only [Option.bind_some]
  rw [if_pos trivial, h1, if_pos (by omega), if_pos (by rw [ByteArray.size_append, h1]; omega)]
  show (some (((⟨#[c]⟩ : ByteArray) ++ t).extract 1 _, true)).bind _ = _
  rw [ext_app]
  rfl
theorem pre_some (a : ByteArray) (c : UInt8) : ∃ b, stringslite_HasPrefix.f a ⟨#[c]⟩ = some b := by
  have h1 : (⟨#[c]⟩ : ByteArray).size = 1 := rfl
  unfold stringslite_HasPrefix.f
  rw [h1]
  split
  · rw [if_pos (by omega)]; try rw [if_pos (by omega)]
    exact ⟨_, rfl⟩
  · exact ⟨_, rfl⟩
theorem trim_some (a : ByteArray) (c : UInt8) : ∃ t, strings_TrimPrefix.f a ⟨#[c]⟩ = some t ∧ t.size ≤ a.size := by
  have h1 : (⟨#[c]⟩ : ByteArray).size = 1 := rfl
  obtain ⟨b, hb⟩ := pre_some a c
  unfold strings_TrimPrefix.f stringslite_TrimPrefix.f
  rw [hb]
  simp only [Option.bind_some]
  cases b with
  | true =>
    have hz : 1 ≤ a.size := by
      by_cases hz : 1 ≤ a.size
      · exact hz
      · unfold stringslite_HasPrefix.f at hb
        rw [h1, if_neg (by omega)] at hb
        cases hb
    rw [if_pos rfl, h1, if_pos (by omega), if_pos (by omega)]
    exact ⟨_, rfl, by rw [ByteArray.size_extract]; omega⟩
  | false => exact ⟨_, rfl, Nat.le_refl _⟩
theorem has_some (a : ByteArray) (c : UInt8) : ∃ b, strings_HasPrefix.f a ⟨#[c]⟩ = some b := by
  obtain ⟨b, hb⟩ := pre_some a c
  unfold strings_HasPrefix.f
  rw [hb]
  exact ⟨_, rfl⟩
theorem cut_some (a : ByteArray) (c : UInt8) : ∃ t b, strings_CutPrefix.f a ⟨#[c]⟩ = some (t, b) ∧ t.size ≤ a.size := by
  have h1 : (⟨#[c]⟩ : ByteArray).size = 1 := rfl
  obtain ⟨b, hb⟩ := pre_some a c
  unfold strings_CutPrefix.f stringslite_CutPrefix.f
  rw [hb]
  simp only [Option.bind_some]
  cases b with
  | true =>
    have hz : 1 ≤ a.size := by
      by_cases hz : 1 ≤ a.size
      · exact hz
      · unfold stringslite_HasPrefix.f at hb
        rw [h1, if_neg (by omega)] at hb
        cases hb
    rw [if_pos rfl, h1, if_pos (by omega), if_pos (by omega)]
    exact ⟨_, _, rfl, by rw [ByteArray.size_extract]; omega⟩
  | false => exact ⟨_, _, rfl, Nat.le_refl _⟩
structure Inv (M : Nat) (e : Ev) : Prop where
  a : -9999 ≤ e.a ∧ e.a ≤ 9999
  b : -9999 ≤ e.b ∧ e.b ≤ 9999
  n : -9999 ≤ e.n ∧ e.n ≤ 9999
  m : -9999 ≤ e.m ∧ e.m ≤ 9999
  x : -9999 ≤ e.x ∧ e.x ≤ 9999
  y : -9999 ≤ e.y ∧ e.y ≤ 9999
  s : e.s.size ≤ 2000
  d : ∀ z ∈ e.d, 0 ≤ z ∧ z ≤ 255
  l : e.d.length ≤ M
/-- What one word changes. -/
structure Same (c : Int) (e e' : Ev) : Prop where
  k : e'.k = e.k
  a : c ≠ 65 → e'.a = e.a
  b : c ≠ 66 → e'.b = e.b
  n : c ≠ 78 → e'.n = e.n
  m : c ≠ 77 → e'.m = e.m
  x : c ≠ 88 → e'.x = e.x
  y : c ≠ 89 → e'.y = e.y
  s : c ≠ 83 → e'.s = e.s
  d : c ≠ 68 → e'.d = e.d
theorem Same.refl (c : Int) (e : Ev) : Same c e e := ⟨rfl, fun _ => rfl, fun _ => rfl, fun _ => rfl, fun _ => rfl, fun _ => rfl, fun _ => rfl, fun _ => rfl, fun _ => rfl⟩
theorem Inv.le {M M' : Nat} {e : Ev} (h : Inv M e) (hM : M ≤ M') : Inv M' e := ⟨h.a, h.b, h.n, h.m, h.x, h.y, h.s, h.d, Nat.le_trans h.l hM⟩
def isLet (c : Int) : Prop := c = 83 ∨ c = 68 ∨ c = 88 ∨ c = 89 ∨ c = 65 ∨ c = 66 ∨ c = 78 ∨ c = 77
theorem setNum_some (e : Ev) (c v : Int) (hc : isLet c) (h1 : c ≠ 83) (h2 : c ≠ 68) (M : Nat) (hi : Inv M e) (h0 : -9999 ≤ v ∧ v ≤ 9999) : ∃ e', setNum e c v = some e' ∧ Inv M e' ∧ Same c e e' := by
  unfold setNum
  rcases hc with rfl | rfl | rfl | rfl | rfl | rfl | rfl | rfl
  · exact absurd rfl h1
  · exact absurd rfl h2
  · exact ⟨_, rfl, ⟨hi.a, hi.b, hi.n, hi.m, h0, hi.y, hi.s, hi.d, hi.l⟩, ⟨rfl, fun _ => rfl, fun _ => rfl, fun _ => rfl, fun _ => rfl, fun h => absurd rfl h, fun _ => rfl, fun _ => rfl, fun _ => rfl⟩⟩
  · exact ⟨_, rfl, ⟨hi.a, hi.b, hi.n, hi.m, hi.x, h0, hi.s, hi.d, hi.l⟩, ⟨rfl, fun _ => rfl, fun _ => rfl, fun _ => rfl, fun _ => rfl, fun _ => rfl, fun h => absurd rfl h, fun _ => rfl, fun _ => rfl⟩⟩
  · exact ⟨_, rfl, ⟨h0, hi.b, hi.n, hi.m, hi.x, hi.y, hi.s, hi.d, hi.l⟩, ⟨rfl, fun h => absurd rfl h, fun _ => rfl, fun _ => rfl, fun _ => rfl, fun _ => rfl, fun _ => rfl, fun _ => rfl, fun _ => rfl⟩⟩
  · exact ⟨_, rfl, ⟨hi.a, h0, hi.n, hi.m, hi.x, hi.y, hi.s, hi.d, hi.l⟩, ⟨rfl, fun _ => rfl, fun h => absurd rfl h, fun _ => rfl, fun _ => rfl, fun _ => rfl, fun _ => rfl, fun _ => rfl, fun _ => rfl⟩⟩
  · exact ⟨_, rfl, ⟨hi.a, hi.b, h0, hi.m, hi.x, hi.y, hi.s, hi.d, hi.l⟩, ⟨rfl, fun _ => rfl, fun _ => rfl, fun h => absurd rfl h, fun _ => rfl, fun _ => rfl, fun _ => rfl, fun _ => rfl, fun _ => rfl⟩⟩
  · exact ⟨_, rfl, ⟨hi.a, hi.b, hi.n, h0, hi.x, hi.y, hi.s, hi.d, hi.l⟩, ⟨rfl, fun _ => rfl, fun _ => rfl, fun _ => rfl, fun h => absurd rfl h, fun _ => rfl, fun _ => rfl, fun _ => rfl, fun _ => rfl⟩⟩
/-- set tells something of any word; what it sets stays in bounds. -/
theorem setC_some (e : Ev) (c : Int) (wd : ByteArray) (M : Nat) (hM : M ≤ 90000) (hc : isLet c) (hi : Inv M e) (hw : wd.size ≤ 2000) : ∃ e' ok, setC e c wd = some (e', ok) ∧ Inv (M + 2000) e' ∧ Same c e e' := by
  have hl := hi.l
  unfold setC
  rw [if_neg (by omega)]
  by_cases h1 : c = 83
  · subst h1
    rw [if_pos rfl]
    obtain ⟨t0, h0, hz⟩ := trim_some wd 61
    obtain ⟨r, b, ht, hr⟩ := texts_some t0 (by omega) t0.size (t0.size + 2) 0 [] (by omega) (by omega) (by omega) (by simp)
    obtain ⟨p, hp⟩ := has_some wd 61
    have ht' : script_texts.f (t0.size + 2) t0 = some (r, b) := ht
    rw [h0, Option.bind_some, ht', Option.bind_some, hp]
    exact ⟨_, _, rfl, ⟨hi.a, hi.b, hi.n, hi.m, hi.x, hi.y, by show r.size ≤ 2000; omega, hi.d, by show e.d.length ≤ _; omega⟩, ⟨rfl, fun _ => rfl, fun _ => rfl, fun _ => rfl, fun _ => rfl, fun _ => rfl, fun _ => rfl, fun h => absurd rfl h, fun _ => rfl⟩⟩
  · rw [if_neg h1]
    by_cases h2 : c = 68
    · subst h2
      rw [if_pos rfl]
      obtain ⟨t, b, ht, hz⟩ := cut_some wd 35
      rw [ht]
      simp only [Option.bind_some]
      cases b with
      | false => exact ⟨_, _, rfl, hi.le (by omega), Same.refl _ _⟩
      | true =>
        rw [if_pos rfl]
        by_cases ho : t.size % 2 = 1
        · rw [if_pos ho]
          exact ⟨_, _, rfl, hi.le (by omega), Same.refl _ _⟩
        · rw [if_neg ho, if_pos (by omega)]
          obtain ⟨r, b, hr, q1, q2, q3⟩ := draws_some (t.size + 2) t e.d (by omega) (by omega)
          rw [hr]
          exact ⟨_, _, rfl, ⟨hi.a, hi.b, hi.n, hi.m, hi.x, hi.y, hi.s, q3 hi.d, by show r.length ≤ _; omega⟩, ⟨rfl, fun _ => rfl, fun _ => rfl, fun _ => rfl, fun _ => rfl, fun _ => rfl, fun _ => rfl, fun _ => rfl, fun h => absurd rfl h⟩⟩
    · rw [if_neg h2]
      cases ha : atoiV wd with
      | none => exact ⟨_, _, rfl, hi.le (by omega), Same.refl _ _⟩
      | some v =>
        simp only
        by_cases hv : -9999 ≤ v ∧ v ≤ 9999
        · rw [if_pos hv]
          obtain ⟨e', he, h3, h4⟩ := setNum_some e c v hc h1 h2 M hi hv
          rw [he]
          exact ⟨_, _, rfl, h3.le (by omega), h4⟩
        · rw [if_neg hv]
          exact ⟨_, _, rfl, hi.le (by omega), Same.refl _ _⟩
theorem set_numW (e : Ev) (c v : Int) (e' : Ev) (M : Nat) (hM : M ≤ 90000) (hi : Inv M e) (h1 : c ≠ 83) (h2 : c ≠ 68) (h0 : -9999 ≤ v ∧ v ≤ 9999) (hn : setNum e c v = some e') : setC e c (itoaB v) = some (e', true) := by
  have hl := hi.l
  have hz := num_size v h0.1 h0.2
  unfold setC
  rw [if_neg (by omega), if_neg h1, if_neg h2, num_atoi v h0.1 h0.2]
  simp only
  rw [if_pos h0, hn]
  rfl
theorem esc_size (s : ByteArray) : (escS s).size ≤ 3 * s.size := by
  have hl := escL_le s s.size (Nat.le_refl _)
  have hz : (escS s).size = (escL s s.size).length := by rw [← len_eq, Go.ByteArray.toList_eq]; rfl
  omega
theorem esc_len (s : ByteArray) : s.size ≤ (escS s).size := by
  have h : ∀ l : List Int, l.length ≤ (l.flatMap escC).length := by
    intro l
    induction l with
    | nil => simp
    | cons c l ih =>
      rw [List.flatMap_cons, List.length_append, List.length_cons]
      have : 1 ≤ (escC c).length := by
        unfold escC
        split <;> simp
      omega
  have := h (bytesOf s)
  rw [← esc_list, bytesOf_length, len_eq] at this
  exact this
theorem texts_esc' (s : ByteArray) (hs : s.size ≤ 100000) : script_texts.f ((escS s).size + 2) (escS s) = some (s, true) := texts_esc s hs _ (by have := esc_len s; omega)
theorem set_txtW (e : Ev) (s : ByteArray) (M : Nat) (hM : M ≤ 90000) (hi : Inv M e) (hs : s.size ≤ 2000) : setC e 83 (⟨#[61]⟩ ++ escS s) = some ({ e with s := s }, true) := by
  have hl := hi.l
  have h1 : (⟨#[61]⟩ : ByteArray).size = 1 := rfl
  have hz := esc_size s
  unfold setC
  rw [if_neg (by rw [ByteArray.size_append, h1]; omega), if_pos rfl, trim_app 61 (escS s) (by omega), Option.bind_some, texts_esc' s (by omega), Option.bind_some, has_app 61 (escS s) (by omega)]
  rfl
theorem set_drwW (e : Ev) (d : List Int) (M : Nat) (hM : M ≤ 90000) (hi : Inv M e) (hd : ∀ z ∈ d, 0 ≤ z ∧ z ≤ 255) (hl2 : d.length ≤ 16) (h0 : e.d = []) : setC e 68 (⟨#[35]⟩ ++ hexD d) = some ({ e with d := d }, true) := by
  have hl := hi.l
  have h1 : (⟨#[35]⟩ : ByteArray).size = 1 := rfl
  have hz := hexD_size d hd
  unfold setC
  rw [if_neg (by rw [ByteArray.size_append, h1]; omega), if_neg (by decide), if_pos rfl, cut_app 35 (hexD d) (by omega)]
  simp only [Option.bind_some]
  rw [if_pos trivial, if_neg (by omega), if_pos (by omega), draws_all d _ e.d hd (by omega), h0]
  rfl
end Go.Proofs.YtndgaeldndgioaaGreatDoor.Pure
end

section
/- Lines and events of the program, plainly: which lines script.read takes, and what script.line writes. -/
set_option linter.unusedVariables false
set_option linter.unusedSimpArgs false
set_option maxHeartbeats 1000000
namespace Go.Proofs.YtndgaeldndgioaaGreatDoor.Pure
open Go.RowKit Go.Proofs.YtndgaeldndgioaaGreatDoor.QAll Go.Proofs.YtndgaeldndgioaaGreatDoorW.PrintWords Go.Proofs.YtndgaeldndgioaaGreatDoorW.PrintLast
theorem lets_all : ∀ k : Nat, k < 12 → ∀ c ∈ (lettL.getD k []), isLet (c.toNat : Int)
  | 0, _ => by unfold isLet; decide | 1, _ => by unfold isLet; decide | 2, _ => by unfold isLet; decide | 3, _ => by unfold isLet; decide | 4, _ => by unfold isLet; decide | 5, _ => by unfold isLet; decide | 6, _ => by unfold isLet; decide | 7, _ => by unfold isLet; decide | 8, _ => by unfold isLet; decide | 9, _ => by unfold isLet; decide | 10, _ => by unfold isLet; decide | 11, _ => by unfold isLet; decide
  | k + 12, h => absurd h (by omega)
/-- What a list of words changes. -/
structure SameL (L : List UInt8) (e e' : Ev) : Prop where
  k : e'.k = e.k
  a : (65 : UInt8) ∉ L → e'.a = e.a
  b : (66 : UInt8) ∉ L → e'.b = e.b
  n : (78 : UInt8) ∉ L → e'.n = e.n
  m : (77 : UInt8) ∉ L → e'.m = e.m
  x : (88 : UInt8) ∉ L → e'.x = e.x
  y : (89 : UInt8) ∉ L → e'.y = e.y
  s : (83 : UInt8) ∉ L → e'.s = e.s
  d : (68 : UInt8) ∉ L → e'.d = e.d
theorem let_ne {c : UInt8} {L : List UInt8} (z : UInt8) (h : z ∉ c :: L) : (c.toNat : Int) ≠ (z.toNat : Int) := fun e => h (by
  have : c = z := UInt8.toNat_inj.1 (by omega)
  rw [this]
  exact List.mem_cons_self)
theorem SameL.step {c : UInt8} {L : List UInt8} {e e1 e2 : Ev} (h1 : Same (c.toNat : Int) e e1) (h2 : SameL L e1 e2) : SameL (c :: L) e e2 :=
  ⟨h2.k.trans h1.k, fun h => (h2.a (fun q => h (List.mem_cons_of_mem _ q))).trans (h1.a (let_ne 65 h)), fun h => (h2.b (fun q => h (List.mem_cons_of_mem _ q))).trans (h1.b (let_ne 66 h)),
    fun h => (h2.n (fun q => h (List.mem_cons_of_mem _ q))).trans (h1.n (let_ne 78 h)), fun h => (h2.m (fun q => h (List.mem_cons_of_mem _ q))).trans (h1.m (let_ne 77 h)),
    fun h => (h2.x (fun q => h (List.mem_cons_of_mem _ q))).trans (h1.x (let_ne 88 h)), fun h => (h2.y (fun q => h (List.mem_cons_of_mem _ q))).trans (h1.y (let_ne 89 h)),
    fun h => (h2.s (fun q => h (List.mem_cons_of_mem _ q))).trans (h1.s (let_ne 83 h)), fun h => (h2.d (fun q => h (List.mem_cons_of_mem _ q))).trans (h1.d (let_ne 68 h))⟩
theorem readL_some : ∀ (L : List UInt8) (ws : List ByteArray) (e : Ev) (M : Nat), (∀ c ∈ L, isLet (c.toNat : Int)) → L.length = ws.length → (∀ x ∈ ws, x.size ≤ 2000) → M + 2000 * L.length ≤ 90000 → Inv M e →
    ∃ r, readL L ws e = some r ∧ ∀ e', r = some e' → Inv (M + 2000 * L.length) e' ∧ SameL L e e'
  | [], [], e, M, _, _, _, _, hi => ⟨_, rfl, fun e' h => by
      obtain rfl := Option.some.inj h
      exact ⟨hi, ⟨rfl, fun _ => rfl, fun _ => rfl, fun _ => rfl, fun _ => rfl, fun _ => rfl, fun _ => rfl, fun _ => rfl, fun _ => rfl⟩⟩⟩
  | [], _ :: _, _, _, _, hl, _, _, _ => by simp at hl
  | _ :: _, [], _, _, _, hl, _, _, _ => by simp at hl
  | c :: L, wd :: ws, e, M, hc, hl, hw, hM, hi => by
    simp only [List.length_cons] at hl hM
    obtain ⟨e1, ok, h1, h2, h3⟩ := setC_some e (c.toNat : Int) wd M (by omega) (hc c (by simp)) hi (hw wd (by simp))
    rw [readL, h1]
    simp only [Option.bind_some]
    cases ok with
    | true =>
      rw [if_pos rfl]
      obtain ⟨r, hr, hq⟩ := readL_some L ws e1 (M + 2000) (fun x hx => hc x (by simp [hx])) (by omega) (fun x hx => hw x (by simp [hx])) (by omega) h2
      refine ⟨r, hr, fun e' he => ?_⟩
      obtain ⟨q1, q2⟩ := hq e' he
      exact ⟨q1.le (by simp only [List.length_cons]; omega), SameL.step h3 q2⟩
    | false => exact ⟨_, rfl, fun e' he => by cases he⟩
/-- An event of a kind: its parts in bounds, and those that have no word naught. -/
structure DE (e : Ev) (k : Nat) : Prop where
  k0 : 0 < k
  k12 : k < 12
  inv : Inv 90000 e
  same : SameL (lettL.getD k []) (ev0 k) e
theorem z9999 : (-9999 : Int) ≤ 0 ∧ (0 : Int) ≤ 9999 := by decide
theorem inv0' (k : Nat) : Inv 0 (ev0 k) := ⟨z9999, z9999, z9999, z9999, z9999, z9999, Nat.zero_le 2000, fun z hz => absurd hz (List.not_mem_nil), Nat.le_refl _⟩
theorem lett_len : ∀ k : Nat, k < 12 → (lettL.getD k []).length ≤ 4
  | 0, _ => by decide | 1, _ => by decide | 2, _ => by decide | 3, _ => by decide | 4, _ => by decide | 5, _ => by decide | 6, _ => by decide | 7, _ => by decide | 8, _ => by decide | 9, _ => by decide | 10, _ => by decide | 11, _ => by decide
  | k + 12, h => absurd h (by omega)
theorem lett_sz (k : Nat) : (lettersOf k).size = (lettL.getD k []).length := by
  rw [← len_eq, Go.ByteArray.toList_eq]
  rfl
theorem readG_some (k : Nat) (hk : k < 12) (ws : List ByteArray) (hw : ∀ x ∈ ws, x.size ≤ 2000) : readG k ws = some (ev0 0, false) ∨ ∃ e, readG k ws = some (e, true) ∧ DE e k := by
  unfold readG
  by_cases hz : (lettersOf k).size = 0 ∨ (lettersOf k).size ≠ ws.length
  · rw [if_pos hz]
    exact Or.inl rfl
  · rw [if_neg hz]
    have h4 := lett_len k hk
    have hs := lett_sz k
    obtain ⟨r, hr, hq⟩ := readL_some (lettL.getD k []) ws (ev0 k) 0 (lets_all k hk) (by omega) hw (by omega) (inv0' k)
    have e : (lettersOf k).data.toList = lettL.getD k [] := rfl
    rw [e, hr]
    cases r with
    | none => exact Or.inl rfl
    | some e' =>
      obtain ⟨q1, q2⟩ := hq e' rfl
      refine Or.inr ⟨e', rfl, ?_, hk, q1.le (by omega), q2⟩
      have : k ≠ 0 := fun h => by subst h; exact absurd hs (by rw [show (lettL.getD 0 []).length = 0 from rfl]; omega)
      omega
def wordE (e : Ev) (c : UInt8) : ByteArray × Bool := match wordC e (c.toNat : Int) with
  | some p => p
  | none => (⟨#[]⟩, false)
theorem wordC_eq (e : Ev) (c : UInt8) (hc : isLet (c.toNat : Int)) : wordC e (c.toNat : Int) = some (wordE e c) := by
  unfold wordE
  have : ∃ p, wordC e (c.toNat : Int) = some p := by
    unfold wordC
    rcases hc with h | h | h | h | h | h | h | h <;> rw [h] <;> exact ⟨_, rfl⟩
  obtain ⟨p, hp⟩ := this
  rw [hp]
theorem lineL_eq (e : Ev) : ∀ (L : List UInt8) (acc : List ByteArray), (∀ c ∈ L, isLet (c.toNat : Int)) → lineL e L acc = some (if L.all (fun c => (wordE e c).2) = true then some (acc ++ L.map fun c => (wordE e c).1) else none)
  | [], acc, _ => by simp [lineL]
  | c :: L, acc, hc => by
    rw [lineL, wordC_eq e c (hc c (by simp))]
    simp only [Option.bind_some]
    cases h : (wordE e c).2 with
    | true =>
      rw [if_pos rfl, lineL_eq e L _ (fun x hx => hc x (by simp [hx]))]
      simp [h]
    | false =>
      rw [if_neg (by decide)]
      simp [h]
def okE (e : Ev) (k : Nat) : Bool := (lettL.getD k []).all fun c => (wordE e c).2
def wsE (e : Ev) (k : Nat) : List ByteArray := (lettL.getD k []).map fun c => (wordE e c).1
def lnE (e : Ev) (k : Nat) : ByteArray := joinS (nameOf k :: wsE e k) ⟨#[32]⟩
theorem lineL_of (e : Ev) (k : Nat) (hk : k < 12) : lineL e (lettersOf k).data.toList [nameOf k] = some (if okE e k = true then some (nameOf k :: wsE e k) else none) := lineL_eq e (lettL.getD k []) [nameOf k] (lets_all k hk)
theorem two_blank_all : ((List.range 256).all fun a => (twoS (a : Int)).data.toList.all fun b => decide (b ≠ 32)) = true := by kernel_rfl
theorem two_blank (c : Int) (h : 0 ≤ c ∧ c ≤ 255) : ∀ b ∈ (twoS c).data.toList, b ≠ 32 := by
  obtain ⟨a, rfl⟩ := Int.eq_ofNat_of_zero_le h.1
  intro b hb
  exact of_decide_eq_true (List.all_eq_true.1 (List.all_eq_true.1 two_blank_all a (List.mem_range.2 (by omega))) b hb)
theorem esc_blank (c : Int) (h : 0 ≤ c ∧ c ≤ 255) : ∀ b ∈ escC c, b ≠ 32 := by
  unfold escC
  split
  · rename_i hp
    intro b hb
    rw [List.mem_singleton] at hb
    subst hb
    intro e
    have := congrArg UInt8.toNat e
    have := byte_back c h.1 h.2
    have h32 : (32 : UInt8).toNat = 32 := rfl
    omega
  · intro b hb
    rcases List.mem_cons.1 hb with rfl | hb
    · decide
    · exact two_blank c h b hb
theorem word_len (e : Ev) (c : UInt8) (hi : Inv 90000 e) (hc : isLet (c.toNat : Int)) : (wordE e c).1.size ≤ 190000 ∧ ∀ b ∈ (wordE e c).1.toList, b ≠ 32 := by
  have hn : ∀ v : Int, (-9999 ≤ v ∧ v ≤ 9999) → (itoaB v).size ≤ 190000 ∧ ∀ b ∈ (itoaB v).toList, b ≠ 32 := fun v hv => ⟨by have := num_size v hv.1 hv.2; omega, num_blank v hv.1 hv.2⟩
  have h := wordC_eq e c hc
  unfold wordC at h
  rcases hc with q | q | q | q | q | q | q | q <;> rw [q] at h
  · rw [if_pos rfl] at h
    rw [← Option.some.inj h]
    have hz := esc_size e.s
    have hs := hi.s
    refine ⟨by show ((⟨#[61]⟩ : ByteArray) ++ escS e.s).size ≤ _; rw [ByteArray.size_append, show (⟨#[61]⟩ : ByteArray).size = 1 from rfl]; omega, fun b hb => ?_⟩
    have hb' : b ∈ ((⟨#[61]⟩ : ByteArray) ++ escS e.s).toList := hb
    rw [toList_app, esc_list] at hb'
    rcases List.mem_append.1 hb' with hb | hb
    · have : b ∈ [(61 : UInt8)] := by rw [Go.ByteArray.toList_eq] at hb; exact hb
      rw [List.mem_singleton] at this
      subst this
      decide
    · obtain ⟨z, hz, hb⟩ := List.mem_flatMap.1 hb
      exact esc_blank z (bytes_in _ z hz) b hb
  · rw [if_neg (by decide), if_pos rfl] at h
    rw [← Option.some.inj h]
    have hz := hexD_size e.d hi.d
    have hl := hi.l
    refine ⟨by show ((⟨#[35]⟩ : ByteArray) ++ hexD e.d).size ≤ _; rw [ByteArray.size_append, show (⟨#[35]⟩ : ByteArray).size = 1 from rfl]; omega, fun b hb => ?_⟩
    have hb' : b ∈ ((⟨#[35]⟩ : ByteArray) ++ hexD e.d).toList := hb
    rw [toList_app] at hb'
    rcases List.mem_append.1 hb' with hb | hb
    · have : b ∈ [(35 : UInt8)] := by rw [Go.ByteArray.toList_eq] at hb; exact hb
      rw [List.mem_singleton] at this
      subst this
      decide
    · have : b ∈ e.d.flatMap (fun c => (twoS c).data.toList) := by rw [Go.ByteArray.toList_eq] at hb; exact hb
      obtain ⟨z, hz, hb⟩ := List.mem_flatMap.1 this
      exact two_blank z (hi.d z hz) b hb
  · rw [if_neg (by decide), if_neg (by decide), if_pos rfl] at h
    rw [← Option.some.inj h]
    exact hn _ hi.x
  · rw [if_neg (by decide), if_neg (by decide), if_neg (by decide), if_pos rfl] at h
    rw [← Option.some.inj h]
    exact hn _ hi.y
  · rw [if_neg (by decide), if_neg (by decide), if_neg (by decide), if_neg (by decide), if_pos rfl] at h
    rw [← Option.some.inj h]
    exact hn _ hi.a
  · rw [if_neg (by decide), if_neg (by decide), if_neg (by decide), if_neg (by decide), if_neg (by decide), if_pos rfl] at h
    rw [← Option.some.inj h]
    exact hn _ hi.b
  · rw [if_neg (by decide), if_neg (by decide), if_neg (by decide), if_neg (by decide), if_neg (by decide), if_neg (by decide), if_pos rfl] at h
    rw [← Option.some.inj h]
    exact hn _ hi.n
  · rw [if_neg (by decide), if_neg (by decide), if_neg (by decide), if_neg (by decide), if_neg (by decide), if_neg (by decide), if_neg (by decide), if_pos rfl] at h
    rw [← Option.some.inj h]
    exact hn _ hi.m
end Go.Proofs.YtndgaeldndgioaaGreatDoor.Pure
end

section
/- script.Parse, walked by hand. -/
set_option linter.unusedVariables false
set_option linter.unusedSimpArgs false
namespace Go.Proofs.YtndgaeldndgioaaGreatDoor.QAll
open Go.RowKit Go.Proofs.YtndgaeldndgioaaGreatDoorW.PrintWords Go.Proofs.YtndgaeldndgioaaGreatDoorW.PrintLast Go.Proofs.YtndgaeldndgioaaGreatDoorW.PrintMore
open Go.Proofs.YtndgaeldndgioaaGreatDoor.Fl
attribute [local go_sem] run_store_complex
theorem evV_00 (A : Option Addr) (c : Nat) : evV (ev0 0) A c = .agg #[.int .i64 0, .int .i64 0, .int .i64 0, .int .i64 0, .int .i64 0, .string ⟨#[]⟩, .complex .f64 0 0, .slice A 0 c] := by
  unfold evV ev0
  simp only [fl_0]
  rfl
theorem heap_step_alloc {W : World} {i : Nat} {o : Obj} (h : W.heap[i]? = some o) (hlt : i < W.heap.size) (o' : Obj) : (W.alloc o').heap[i]? = some o := (Below.heap_alloc _ _ _ hlt).trans h
set_option maxHeartbeats 8000000 in
set_option maxRecDepth 100000 in
theorem parse_none (s l0 : ByteArray) (ws : List ByteArray) (K k : Nat) (w : World) (hE : EnvW w) (hs : s.size ≤ 1000000) (hsp : splitS s ⟨#[32]⟩ = l0 :: ws) (hk : script_kindOf.f K l0 = some (k : Int)) (hk12 : k < 12) (hr : readG k ws = some (ev0 0, false)) :
    Calls Tryz.prog 7 #[.string s] w fun r w' => ∃ A c, r = .returned (.tuple #[evV (ev0 0) A c, .int .i64 2]) ∧ (Kd.int .u8).R 5 w' w.heap.size (fun _ => True) (.slice A (ev0 0).d.length c) (ev0 0).d ∧ Below w.heap.size w w' := by
  have HE := Aside0.mk hE
  have HC := Aside0.mk (fun (W : World) (hb : Below w.heap.size w W) => read_core s l0 ws K k (ev0 0, false) W (hE.below hb) hs hsp hk hk12 hr)
  clear hE hsp hk hr
  simp only [evV_00] at HC
  go_enter Tryz.func7, Tryz.ntmps7
  go_wp2_with (fail)
  (with_reducible refine (HC.out _ ((Below.refl _ _).alloc (Nat.le_refl _) _)).mono ?_)
  rintro e w2 ⟨A, c, rfl, hR, hb2⟩
  have HX2 := Aside0.mk ((hb2.block w.heap.size (by simp)).trans (heap_alloc_new w _))
  have HB2 := Aside0.mk (below_step ((Below.refl w.heap.size w).alloc (Nat.le_refl _) _) hb2)
  have hlt : w.heap.size < w2.heap.size := Nat.lt_of_lt_of_le (by simp) hb2.size
  clear hb2 hR
  have HX3 := Aside0.mk (heap_step_alloc HX2.out hlt (.cells #[.int .i64 0, .int .i64 0, .int .i64 0, .int .i64 0, .int .i64 0, .string ⟨#[]⟩, .complex .f64 0 0, .slice A 0 c] 26 (0, 0)))
  have HB3 := Aside0.mk (below_alloc HB2.out (.cells #[.int .i64 0, .int .i64 0, .int .i64 0, .int .i64 0, .int .i64 0, .string ⟨#[]⟩, .complex .f64 0 0, .slice A 0 c] 26 (0, 0)))
  obtain ⟨w3, hw3⟩ : ∃ w3, w2.alloc (.cells #[.int .i64 0, .int .i64 0, .int .i64 0, .int .i64 0, .int .i64 0, .string ⟨#[]⟩, .complex .f64 0 0, .slice A 0 c] 26 (0, 0)) = w3 := ⟨_, rfl⟩
  rw [hw3] at HX3 HB3
  obtain ⟨k0, k1, k2, k3, k4, k5, k6, k7⟩ := cells8 HX3.out
  have f0 := Lib.frozen_of_heap HX3.out 0
  have f1 := Lib.frozen_of_heap HX3.out 1
  have f2 := Lib.frozen_of_heap HX3.out 2
  have f3 := Lib.frozen_of_heap HX3.out 3
  have f4 := Lib.frozen_of_heap HX3.out 4
  have f5 := Lib.frozen_of_heap HX3.out 5
  have f6 := Lib.frozen_of_heap HX3.out 6
  have f7 := Lib.frozen_of_heap HX3.out 7
  go_wp2_with (fail)
  refine bodyPost_ret (results_ct rfl _ _ w.heap.size 26 #[.int .i64 0, .int .i64 0, .int .i64 0, .int .i64 0, .int .i64 0, .string ⟨#[]⟩, .complex .f64 0 0, .slice none 0 0] (0, 0) _ rfl ?hc Tryz.underlying26 rfl (by kernel_rfl)) rfl ?_
  case hc => exact eight_set HX3.out
  exact ⟨none, 0, by rw [evV_0]; rfl, R_ev0 _ _, below_sets HB3.out (Nat.le_refl _) _ _ _ _ _ _ _ _⟩
/-- What script.Parse makes of an event that read has told. -/
def parT (e : Ev) (ln : ByteArray) (ok : Bool) (s : ByteArray) : Ev × Int := if (if ok = true then ln else ⟨#[]⟩) = s then (e, 0) else (ev0 0, 2)
set_option maxHeartbeats 8000000 in
set_option maxRecDepth 100000 in
theorem parse_told (s l0 : ByteArray) (ws : List ByteArray) (K k : Nat) (e : Ev) (ln : ByteArray) (ok : Bool) (w : World) (hE : EnvW w) (hs : s.size ≤ 1000000) (hsp : splitS s ⟨#[32]⟩ = l0 :: ws) (hk : script_kindOf.f K l0 = some (k : Int)) (hk12 : k < 12) (hr : readG k ws = some (e, true)) (hT : Told e k ln ok) :
    Calls Tryz.prog 7 #[.string s] w fun r w' => ∃ A c, r = .returned (.tuple #[evV (parT e ln ok s).1 A c, .int .i64 (parT e ln ok s).2]) ∧ (Kd.int .u8).R 5 w' w.heap.size (fun _ => True) (.slice A (parT e ln ok s).1.d.length c) (parT e ln ok s).1.d ∧ Below w.heap.size w w' := by
  have HE := Aside0.mk hE
  have HT := Aside0.mk hT
  have HC := Aside0.mk (fun (W : World) (hb : Below w.heap.size w W) => read_core s l0 ws K k (e, true) W (hE.below hb) hs hsp hk hk12 hr)
  clear hE hsp hk hr hT
  unfold evV at HC
  generalize hp : parT e ln ok s = out
  have HP := Aside0.mk hp
  clear hp
  go_enter Tryz.func7, Tryz.ntmps7
  go_wp2_with (fail)
  (with_reducible refine (HC.out _ ((Below.refl _ _).alloc (Nat.le_refl _) _)).mono ?_)
  rintro r w2 ⟨A, c, rfl, hR, hb2⟩
  have HX2 := Aside0.mk ((hb2.block w.heap.size (by simp)).trans (heap_alloc_new w _))
  have HB2 := Aside0.mk (below_step ((Below.refl w.heap.size w).alloc (Nat.le_refl _) _) hb2)
  have hlt : w.heap.size < w2.heap.size := Nat.lt_of_lt_of_le (by simp) hb2.size
  have HR2 := Aside0.mk hR
  have hpr := print_told e k ln ok A c (w2.alloc (.cells #[.int .i64 e.k, .int .i64 e.a, .int .i64 e.b, .int .i64 e.n, .int .i64 e.m, .string e.s, .complex .f64 (fl e.x) (fl e.y), .slice A e.d.length c] 26 (0, 0))) (HE.out.below (below_alloc HB2.out _)) HT.out (Kd.C_alloc (Kd.R_reads' hR).2.2 _)
  unfold evV at hpr
  have HPr := Aside0.mk hpr
  clear hb2 hR hpr
  have HX3 := Aside0.mk (heap_step_alloc HX2.out hlt (.cells #[.int .i64 e.k, .int .i64 e.a, .int .i64 e.b, .int .i64 e.n, .int .i64 e.m, .string e.s, .complex .f64 (fl e.x) (fl e.y), .slice A e.d.length c] 26 (0, 0)))
  have HB3 := Aside0.mk (below_alloc HB2.out (.cells #[.int .i64 e.k, .int .i64 e.a, .int .i64 e.b, .int .i64 e.n, .int .i64 e.m, .string e.s, .complex .f64 (fl e.x) (fl e.y), .slice A e.d.length c] 26 (0, 0)))
  have HG3 := Aside0.mk (heap_alloc_new w2 (.cells #[.int .i64 e.k, .int .i64 e.a, .int .i64 e.b, .int .i64 e.n, .int .i64 e.m, .string e.s, .complex .f64 (fl e.x) (fl e.y), .slice A e.d.length c] 26 (0, 0)))
  have HR3 := Aside0.mk (Kd.R_below HR2.out ((Below.refl _ _).alloc (Nat.le_refl _) (.cells #[.int .i64 e.k, .int .i64 e.a, .int .i64 e.b, .int .i64 e.n, .int .i64 e.m, .string e.s, .complex .f64 (fl e.x) (fl e.y), .slice A e.d.length c] 26 (0, 0))))
  have HL3 := Aside0.mk (show w2.heap.size < (w2.alloc (.cells #[.int .i64 e.k, .int .i64 e.a, .int .i64 e.b, .int .i64 e.n, .int .i64 e.m, .string e.s, .complex .f64 (fl e.x) (fl e.y), .slice A e.d.length c] 26 (0, 0))).heap.size by simp)
  obtain ⟨w3, hw3⟩ : ∃ w3, w2.alloc (.cells #[.int .i64 e.k, .int .i64 e.a, .int .i64 e.b, .int .i64 e.n, .int .i64 e.m, .string e.s, .complex .f64 (fl e.x) (fl e.y), .slice A e.d.length c] 26 (0, 0)) = w3 := ⟨_, rfl⟩
  rw [hw3] at HX3 HB3 HG3 HR3 HL3 HPr
  clear HX2 HB2 HR2
  obtain ⟨k0, k1, k2, k3, k4, k5, k6, k7⟩ := cells8 HG3.out
  go_wp2_with (fail)
  (with_reducible refine HPr.out.mono ?_)
  rintro r w4 ⟨rfl, hb4⟩
  clear k0 k1 k2 k3 k4 k5 k6 k7 hw3
  have HX4 := Aside0.mk ((hb4.block _ (lt_of_some HX3.out)).trans HX3.out)
  have HG4 := Aside0.mk ((hb4.block _ (lt_of_some HG3.out)).trans HG3.out)
  have HB4 := Aside0.mk (below_then HB3.out (Nat.le_of_lt (Nat.lt_trans hlt HL3.out)) hb4)
  have HR4 := Aside0.mk (Kd.R_below HR3.out hb4)
  clear hb4 HX3 HG3 HB3 HR3 HPr
  obtain ⟨k0, k1, k2, k3, k4, k5, k6, k7⟩ := cells8 HX4.out
  obtain ⟨j0, j1, j2, j3, j4, j5, j6, j7⟩ := cells8 HG4.out
  have f0 := Lib.frozen_of_heap HX4.out 0
  have f1 := Lib.frozen_of_heap HX4.out 1
  have f2 := Lib.frozen_of_heap HX4.out 2
  have f3 := Lib.frozen_of_heap HX4.out 3
  have f4 := Lib.frozen_of_heap HX4.out 4
  have f5 := Lib.frozen_of_heap HX4.out 5
  have f6 := Lib.frozen_of_heap HX4.out 6
  have f7 := Lib.frozen_of_heap HX4.out 7
  by_cases hq : (if ok = true then ln else ⟨#[]⟩) = s
  · have hpo := HP.out
    rw [parT, if_pos hq] at hpo
    subst hpo
    generalize (if ok = true then ln else ⟨#[]⟩) = pr at hq ⊢
    subst hq
    go_wp2_with (fail)
    refine bodyPost_ret (results_ct rfl _ _ w.heap.size 26 #[.int .i64 e.k, .int .i64 e.a, .int .i64 e.b, .int .i64 e.n, .int .i64 e.m, .string e.s, .complex .f64 (fl e.x) (fl e.y), .slice A e.d.length c] (0, 0) _ rfl ?hc Tryz.underlying26 rfl (by kernel_rfl)) rfl ?_
    case hc => exact eight_set HX4.out
    exact ⟨A, c, rfl, R_sets HR4.out (by simp) _ _ _ _ _ _ _ _, below_sets HB4.out (Nat.le_refl _) _ _ _ _ _ _ _ _⟩
  · have hpo := HP.out
    rw [parT, if_neg hq] at hpo
    subst hpo
    generalize (if ok = true then ln else ⟨#[]⟩) = pr at hq ⊢
    have hne : (pr.toList == s.toList) = false := beq_eq_false_iff_ne.2 (fun h => hq (by
      rw [Go.ByteArray.toList_eq, Go.ByteArray.toList_eq] at h
      cases pr; cases s
      congr 1
      exact Array.ext' h))
    go_wp2_with (fail)
    refine bodyPost_ret (results_ct rfl _ _ w.heap.size 26 #[.int .i64 0, .int .i64 0, .int .i64 0, .int .i64 0, .int .i64 0, .string ⟨#[]⟩, .complex .f64 0 0, .slice none 0 0] (0, 0) _ rfl ?hc Tryz.underlying26 rfl (by kernel_rfl)) rfl ?_
    case hc => exact eight_set HX4.out
    exact ⟨none, 0, by rw [evV_0]; rfl, R_ev0 _ _, below_sets HB4.out (Nat.le_refl _) _ _ _ _ _ _ _ _⟩
end Go.Proofs.YtndgaeldndgioaaGreatDoor.QAll
end
