/- Words, walks and plain laws that the row of the law XidParses rests on. -/
import Derived.Test.YtpmieapgbdbabaaDoorMXidParses0
import Derived.Shelf.Strings.Builder1
import Derived.Shelf.Strings.Builder2
import Derived.Shelf.Strings.OnBuilder
import Derived.Shelf.Strings.Trim
import Derived.Shelf.Small.Utf8
import Derived.Shelf.Small.Strs
import Derived.Shelf.Small.Wraps
import Derived.Shelf.Strings.BuilderF
import Derived.Shelf.Utf8.RuneCount
import Derived.Shelf.Strconv.Atoi
import Derived.Shelf.Strconv.Itoa0
import Derived.Shelf.Strconv.Itoa1
import Derived.Shelf.LaysM
import Derived.Shelf.Strconv.Itoa2
import Derived.Shelf.Strconv.Itoa3
import Derived.Shelf.Strconv.AtoiErrFast
import Derived.Shelf.Strconv.ParseIntEmpty
import Derived.Shelf.Strconv.AtoiFail
import Derived.Shelf.Strconv.Clone
import Derived.Shelf.Strconv.SyntaxError
import Derived.Shelf.LaysC
import Derived.Shelf.Strconv.ToError
import Derived.Shelf.Strconv.AtoiErr
import Derived.Shelf.Strconv.ErrVar
import Derived.Shelf.Strconv.Lower
import Derived.Shelf.Strconv.ParseUint10
import Derived.Shelf.Strconv.ParseUint10Empty
import Derived.Shelf.Strconv.ParseUint10Any
import Derived.Shelf.Strconv.ParseInt10
import Derived.Shelf.Strconv.AtoiLong
import Derived.Shelf.Strconv.AtoiInnerAll
import Derived.Shelf.Strconv.RangeError
import Derived.Shelf.Strconv.ToErrorRange
import Derived.Shelf.Strconv.AtoiAll
import Derived.Shelf.Strconv.ErrVarAll
import Derived.Shelf.Strings.Search1
import Derived.Shelf.Strings.Search2
import Derived.Shelf.Strings.Search3
import Derived.Shelf.Strings.Cut
import Derived.Shelf.Strings.Count
import Derived.Shelf.Strings.Shaped
import Derived.Shelf.Strings.Prefix
import Derived.Shelf.Strings.Split
import Derived.Shelf.Strings.SplitShaped
import Derived.Shelf.Unicode.Decode
import Derived.Shelf.Strings.Runes
import Derived.Shelf.Strings.RuneCount
import Derived.Shelf.Strings.AsciiSet
import Derived.Shelf.Strings.Explode
import Derived.Shelf.Unicode.DecodeSlow
import Derived.Shelf.Unicode.DecodeAny
import Derived.Shelf.Unicode.DecodeLast
import Derived.Test.YtpmieapgbdbabaaDoorProg
import Derived.Lib.AppendIntMem
import Derived.Deep.RegionWith
import Derived.RegionTactic
import Derived.WalkSpells
import Derived.ScopeJumps
import Derived.Laws.DeepStrings4
section
/- Walks, written by a program of this session (wip/pp): a Go function comes to what the Lean function beside it tells. -/
namespace Go.Proofs.YtpmieapgbdbabaaDoor.QAll
open Go.RowKit Go.Proofs.YtpmieapgbdbabaaDoorW.PrintWords Go.Proofs.YtpmieapgbdbabaaDoorW.PrintLast Go.Proofs.YtpmieapgbdbabaaDoorW.PrintMore
attribute [local go_sem] max2_int min2_int max_two min_two max_three min_three max_four min_four
set_option linter.unusedVariables false
set_option linter.unusedSimpArgs false

def xid_Put.f (k : Nat) (a0_0 : Bool) (a0_1 : Bool) (a0_2 : Int) (a0_3 : Int) (a0_4 : Int) (a0_5 : Int) : Option (ByteArray × Int) := (xid_Right.f a0_0 a0_1 a0_2 a0_3 a0_4 a0_5).bind fun t534 => (if t534 = true then ((xid_bit.f a0_0 2).bind fun t535 => ((xid_bit.f a0_1 4).bind fun t536 => ((xid_field.f k 3 (([Go.bits .or .i64 t535 t536, 0] : List Int))).bind fun t540 => ((xid_field.f k 6 (([a0_2 / 256, Go.bits .and .i64 a0_2 255] : List Int))).bind fun t544 => (if t540.size + t544.size ≤ 9223372036854775807 then ((xid_field.f k 8 (([a0_3] : List Int))).bind fun t548 => (if (t540 ++ t544).size + t548.size ≤ 9223372036854775807 then ((xid_field.f k 9 (([a0_4] : List Int))).bind fun t552 => (if ((t540 ++ t544) ++ t548).size + t552.size ≤ 9223372036854775807 then ((xid_field.f k 10 (([a0_5] : List Int))).bind fun t556 => (if (((t540 ++ t544) ++ t548) ++ t552).size + t556.size ≤ 9223372036854775807 then ((some (([0, ((((((t540 ++ t544) ++ t548) ++ t552) ++ t556).size : Int)) % 256] : List Int) : List Int)).bind fun y557 => (if 2 + (strOfNums y557).size ≤ 9223372036854775807 then (if ((⟨#[130, 128]⟩ : ByteArray) ++ (strOfNums y557)).size + ((((t540 ++ t544) ++ t548) ++ t552) ++ t556).size ≤ 9223372036854775807 then (some (((⟨#[130, 128]⟩ : ByteArray) ++ (strOfNums y557)) ++ ((((t540 ++ t544) ++ t548) ++ t552) ++ t556), 0)) else (none)) else (none))) else (none))) else (none))) else (none))) else (none)))))) else (some ((⟨#[]⟩ : ByteArray), 1)))
def xid_Put.T3 : Bool × List (List Nat × List Nat) := (true, [([], []), ([0], [0]), ([1], [1]), ([], []), ([3], [3]), ([4, 2], [4]), ([2, 5], [2, 5]), ([6], [6]), ([7, 5], [7]), ([], []), ([9], [9]), ([10], [10]), ([], []), ([12], [12]), ([13], [13]), ([11, 14], [11, 14]), ([15, 8], [15]), ([8, 16], [8, 16]), ([], []), ([18], [18]), ([19], [19]), ([20, 16], [20]), ([17, 21], [17, 21]), ([], []), ([23], [23]), ([24], [24]), ([25, 21], [25]), ([22, 26], [22, 26]), ([], []), ([28], [28]), ([29], [29]), ([30, 26], [30]), ([27, 31], [27, 31]), ([32, 31, 0, 1, 2, 3, 4, 5, 6, 7, 8, 9, 10, 11, 12, 13, 14, 15, 16, 17, 18, 19, 20, 21, 22, 23, 24, 25, 26, 27, 28, 29, 30, 31, 32], [32])])
def xid_Put.B3 : List Nat := [0, 1, 3, 0, 8, 31, 63, 127, 255, 0, 512, 1536, 0, 4096, 12288, 32256, 65535, 131071, 0, 262144, 786432, 1966079, 4194303, 0, 8388608, 25165824, 62783487, 134217727, 0, 268435456, 805306368, 2008940543, 4294967295, 8589934591]
theorem xid_Put.tab3 : rtab .any (opsOf Tryd.f74 3) = xid_Put.T3 := by kernel_rfl
theorem xid_Put.bits3 : waitsOk xid_Put.T3.2 xid_Put.B3 = true := by kernel_rfl
set_option maxHeartbeats 8000000 in
set_option maxRecDepth 100000 in
theorem xid_Put.calls (k : Nat) (a0_0 : Bool) (a0_1 : Bool) (a0_2 : Int) (a0_3 : Int) (a0_4 : Int) (a0_5 : Int) (r1 : ByteArray) (r2 : Int) (w : World) (h : xid_Put.f k a0_0 a0_1 a0_2 a0_3 a0_4 a0_5 = some (r1, r2)) :
  Calls Tryd.prog 74 #[.agg #[.bool a0_0, .bool a0_1, .int .i64 a0_2, .int .i64 a0_3, .int .i64 a0_4, .int .i64 a0_5]] w fun e w' => e = .returned (.tuple #[.string r1, .int .i64 r2]) ∧ Below w.heap.size w w' := by
 have hu72 := Tryd.underlying72
 have HB := Aside0.mk (Below.refl w.heap.size w)
 have H : ((xid_Right.f a0_0 a0_1 a0_2 a0_3 a0_4 a0_5).bind fun t534 => (if t534 = true then ((xid_bit.f a0_0 2).bind fun t535 => ((xid_bit.f a0_1 4).bind fun t536 => ((xid_field.f k 3 (([Go.bits .or .i64 t535 t536, 0] : List Int))).bind fun t540 => ((xid_field.f k 6 (([a0_2 / 256, Go.bits .and .i64 a0_2 255] : List Int))).bind fun t544 => (if t540.size + t544.size ≤ 9223372036854775807 then ((xid_field.f k 8 (([a0_3] : List Int))).bind fun t548 => (if (t540 ++ t544).size + t548.size ≤ 9223372036854775807 then ((xid_field.f k 9 (([a0_4] : List Int))).bind fun t552 => (if ((t540 ++ t544) ++ t548).size + t552.size ≤ 9223372036854775807 then ((xid_field.f k 10 (([a0_5] : List Int))).bind fun t556 => (if (((t540 ++ t544) ++ t548) ++ t552).size + t556.size ≤ 9223372036854775807 then ((some (([0, ((((((t540 ++ t544) ++ t548) ++ t552) ++ t556).size : Int)) % 256] : List Int) : List Int)).bind fun y557 => (if 2 + (strOfNums y557).size ≤ 9223372036854775807 then (if ((⟨#[130, 128]⟩ : ByteArray) ++ (strOfNums y557)).size + ((((t540 ++ t544) ++ t548) ++ t552) ++ t556).size ≤ 9223372036854775807 then (some (((⟨#[130, 128]⟩ : ByteArray) ++ (strOfNums y557)) ++ ((((t540 ++ t544) ++ t548) ++ t552) ++ t556), 0)) else (none)) else (none))) else (none))) else (none))) else (none))) else (none)))))) else (some ((⟨#[]⟩ : ByteArray), 1)))) = some (r1, r2) := h
 clear h
 replace H := Option.bind_eq_some_iff.mp H
 obtain ⟨t534, A20, H⟩ := H
 replace H : (if t534 = true then ((xid_bit.f a0_0 2).bind fun t535 => ((xid_bit.f a0_1 4).bind fun t536 => ((xid_field.f k 3 (([Go.bits .or .i64 t535 t536, 0] : List Int))).bind fun t540 => ((xid_field.f k 6 (([a0_2 / 256, Go.bits .and .i64 a0_2 255] : List Int))).bind fun t544 => (if t540.size + t544.size ≤ 9223372036854775807 then ((xid_field.f k 8 (([a0_3] : List Int))).bind fun t548 => (if (t540 ++ t544).size + t548.size ≤ 9223372036854775807 then ((xid_field.f k 9 (([a0_4] : List Int))).bind fun t552 => (if ((t540 ++ t544) ++ t548).size + t552.size ≤ 9223372036854775807 then ((xid_field.f k 10 (([a0_5] : List Int))).bind fun t556 => (if (((t540 ++ t544) ++ t548) ++ t552).size + t556.size ≤ 9223372036854775807 then ((some (([0, ((((((t540 ++ t544) ++ t548) ++ t552) ++ t556).size : Int)) % 256] : List Int) : List Int)).bind fun y557 => (if 2 + (strOfNums y557).size ≤ 9223372036854775807 then (if ((⟨#[130, 128]⟩ : ByteArray) ++ (strOfNums y557)).size + ((((t540 ++ t544) ++ t548) ++ t552) ++ t556).size ≤ 9223372036854775807 then (some (((⟨#[130, 128]⟩ : ByteArray) ++ (strOfNums y557)) ++ ((((t540 ++ t544) ++ t548) ++ t552) ++ t556), 0)) else (none)) else (none))) else (none))) else (none))) else (none))) else (none)))))) else (some ((⟨#[]⟩ : ByteArray), 1))) = some (r1, r2) := H
 have A2 := Aside0.mk A20
 clear A20
 by_cases c3 : t534 = true
 ·subst c3
  have H1 : ((xid_bit.f a0_0 2).bind fun t535 => ((xid_bit.f a0_1 4).bind fun t536 => ((xid_field.f k 3 (([Go.bits .or .i64 t535 t536, 0] : List Int))).bind fun t540 => ((xid_field.f k 6 (([a0_2 / 256, Go.bits .and .i64 a0_2 255] : List Int))).bind fun t544 => (if t540.size + t544.size ≤ 9223372036854775807 then ((xid_field.f k 8 (([a0_3] : List Int))).bind fun t548 => (if (t540 ++ t544).size + t548.size ≤ 9223372036854775807 then ((xid_field.f k 9 (([a0_4] : List Int))).bind fun t552 => (if ((t540 ++ t544) ++ t548).size + t552.size ≤ 9223372036854775807 then ((xid_field.f k 10 (([a0_5] : List Int))).bind fun t556 => (if (((t540 ++ t544) ++ t548) ++ t552).size + t556.size ≤ 9223372036854775807 then ((some (([0, ((((((t540 ++ t544) ++ t548) ++ t552) ++ t556).size : Int)) % 256] : List Int) : List Int)).bind fun y557 => (if 2 + (strOfNums y557).size ≤ 9223372036854775807 then (if ((⟨#[130, 128]⟩ : ByteArray) ++ (strOfNums y557)).size + ((((t540 ++ t544) ++ t548) ++ t552) ++ t556).size ≤ 9223372036854775807 then (some (((⟨#[130, 128]⟩ : ByteArray) ++ (strOfNums y557)) ++ ((((t540 ++ t544) ++ t548) ++ t552) ++ t556), 0)) else (none)) else (none))) else (none))) else (none))) else (none))) else (none)))))) = some (r1, r2) := by rw [if_pos rfl] at H; exact H
  clear H
  have H := H1
  clear H1
  replace H := Option.bind_eq_some_iff.mp H
  obtain ⟨t535, A40, H⟩ := H
  replace H : ((xid_bit.f a0_1 4).bind fun t536 => ((xid_field.f k 3 (([Go.bits .or .i64 t535 t536, 0] : List Int))).bind fun t540 => ((xid_field.f k 6 (([a0_2 / 256, Go.bits .and .i64 a0_2 255] : List Int))).bind fun t544 => (if t540.size + t544.size ≤ 9223372036854775807 then ((xid_field.f k 8 (([a0_3] : List Int))).bind fun t548 => (if (t540 ++ t544).size + t548.size ≤ 9223372036854775807 then ((xid_field.f k 9 (([a0_4] : List Int))).bind fun t552 => (if ((t540 ++ t544) ++ t548).size + t552.size ≤ 9223372036854775807 then ((xid_field.f k 10 (([a0_5] : List Int))).bind fun t556 => (if (((t540 ++ t544) ++ t548) ++ t552).size + t556.size ≤ 9223372036854775807 then ((some (([0, ((((((t540 ++ t544) ++ t548) ++ t552) ++ t556).size : Int)) % 256] : List Int) : List Int)).bind fun y557 => (if 2 + (strOfNums y557).size ≤ 9223372036854775807 then (if ((⟨#[130, 128]⟩ : ByteArray) ++ (strOfNums y557)).size + ((((t540 ++ t544) ++ t548) ++ t552) ++ t556).size ≤ 9223372036854775807 then (some (((⟨#[130, 128]⟩ : ByteArray) ++ (strOfNums y557)) ++ ((((t540 ++ t544) ++ t548) ++ t552) ++ t556), 0)) else (none)) else (none))) else (none))) else (none))) else (none))) else (none))))) = some (r1, r2) := H
  have A4 := Aside0.mk A40
  clear A40
  replace H := Option.bind_eq_some_iff.mp H
  obtain ⟨t536, A50, H⟩ := H
  replace H : ((xid_field.f k 3 (([Go.bits .or .i64 t535 t536, 0] : List Int))).bind fun t540 => ((xid_field.f k 6 (([a0_2 / 256, Go.bits .and .i64 a0_2 255] : List Int))).bind fun t544 => (if t540.size + t544.size ≤ 9223372036854775807 then ((xid_field.f k 8 (([a0_3] : List Int))).bind fun t548 => (if (t540 ++ t544).size + t548.size ≤ 9223372036854775807 then ((xid_field.f k 9 (([a0_4] : List Int))).bind fun t552 => (if ((t540 ++ t544) ++ t548).size + t552.size ≤ 9223372036854775807 then ((xid_field.f k 10 (([a0_5] : List Int))).bind fun t556 => (if (((t540 ++ t544) ++ t548) ++ t552).size + t556.size ≤ 9223372036854775807 then ((some (([0, ((((((t540 ++ t544) ++ t548) ++ t552) ++ t556).size : Int)) % 256] : List Int) : List Int)).bind fun y557 => (if 2 + (strOfNums y557).size ≤ 9223372036854775807 then (if ((⟨#[130, 128]⟩ : ByteArray) ++ (strOfNums y557)).size + ((((t540 ++ t544) ++ t548) ++ t552) ++ t556).size ≤ 9223372036854775807 then (some (((⟨#[130, 128]⟩ : ByteArray) ++ (strOfNums y557)) ++ ((((t540 ++ t544) ++ t548) ++ t552) ++ t556), 0)) else (none)) else (none))) else (none))) else (none))) else (none))) else (none)))) = some (r1, r2) := H
  have A5 := Aside0.mk A50
  clear A50
  obtain ⟨y537, hy537⟩ : ∃ y_ : List Int, y_ = (([Go.bits .or .i64 t535 t536, 0] : List Int)) := ⟨_, rfl⟩
  replace H : ((xid_field.f k 3 y537).bind fun t540 => ((xid_field.f k 6 (([a0_2 / 256, Go.bits .and .i64 a0_2 255] : List Int))).bind fun t544 => (if t540.size + t544.size ≤ 9223372036854775807 then ((xid_field.f k 8 (([a0_3] : List Int))).bind fun t548 => (if (t540 ++ t544).size + t548.size ≤ 9223372036854775807 then ((xid_field.f k 9 (([a0_4] : List Int))).bind fun t552 => (if ((t540 ++ t544) ++ t548).size + t552.size ≤ 9223372036854775807 then ((xid_field.f k 10 (([a0_5] : List Int))).bind fun t556 => (if (((t540 ++ t544) ++ t548) ++ t552).size + t556.size ≤ 9223372036854775807 then ((some (([0, ((((((t540 ++ t544) ++ t548) ++ t552) ++ t556).size : Int)) % 256] : List Int) : List Int)).bind fun y557 => (if 2 + (strOfNums y557).size ≤ 9223372036854775807 then (if ((⟨#[130, 128]⟩ : ByteArray) ++ (strOfNums y557)).size + ((((t540 ++ t544) ++ t548) ++ t552) ++ t556).size ≤ 9223372036854775807 then (some (((⟨#[130, 128]⟩ : ByteArray) ++ (strOfNums y557)) ++ ((((t540 ++ t544) ++ t548) ++ t552) ++ t556), 0)) else (none)) else (none))) else (none))) else (none))) else (none))) else (none)))) = some (r1, r2) := by first | (rw [hy537]; with_reducible exact H) | (have H2_ := (Option.bind_some _ _).symm.trans H; rw [hy537]; with_reducible exact H2_) | (have H2_ := (Option.bind_some _ _).symm.trans H; with_reducible exact H2_) | with_reducible exact H | (rw [hy537]; exact H) | exact H
  have Ny537 := Aside0.mk hy537
  clear hy537
  replace H := Option.bind_eq_some_iff.mp H
  obtain ⟨t540, A60, H⟩ := H
  replace H : ((xid_field.f k 6 (([a0_2 / 256, Go.bits .and .i64 a0_2 255] : List Int))).bind fun t544 => (if t540.size + t544.size ≤ 9223372036854775807 then ((xid_field.f k 8 (([a0_3] : List Int))).bind fun t548 => (if (t540 ++ t544).size + t548.size ≤ 9223372036854775807 then ((xid_field.f k 9 (([a0_4] : List Int))).bind fun t552 => (if ((t540 ++ t544) ++ t548).size + t552.size ≤ 9223372036854775807 then ((xid_field.f k 10 (([a0_5] : List Int))).bind fun t556 => (if (((t540 ++ t544) ++ t548) ++ t552).size + t556.size ≤ 9223372036854775807 then ((some (([0, ((((((t540 ++ t544) ++ t548) ++ t552) ++ t556).size : Int)) % 256] : List Int) : List Int)).bind fun y557 => (if 2 + (strOfNums y557).size ≤ 9223372036854775807 then (if ((⟨#[130, 128]⟩ : ByteArray) ++ (strOfNums y557)).size + ((((t540 ++ t544) ++ t548) ++ t552) ++ t556).size ≤ 9223372036854775807 then (some (((⟨#[130, 128]⟩ : ByteArray) ++ (strOfNums y557)) ++ ((((t540 ++ t544) ++ t548) ++ t552) ++ t556), 0)) else (none)) else (none))) else (none))) else (none))) else (none))) else (none))) = some (r1, r2) := H
  have A6 := Aside0.mk A60
  clear A60
  obtain ⟨y541, hy541⟩ : ∃ y_ : List Int, y_ = (([a0_2 / 256, Go.bits .and .i64 a0_2 255] : List Int)) := ⟨_, rfl⟩
  replace H : ((xid_field.f k 6 y541).bind fun t544 => (if t540.size + t544.size ≤ 9223372036854775807 then ((xid_field.f k 8 (([a0_3] : List Int))).bind fun t548 => (if (t540 ++ t544).size + t548.size ≤ 9223372036854775807 then ((xid_field.f k 9 (([a0_4] : List Int))).bind fun t552 => (if ((t540 ++ t544) ++ t548).size + t552.size ≤ 9223372036854775807 then ((xid_field.f k 10 (([a0_5] : List Int))).bind fun t556 => (if (((t540 ++ t544) ++ t548) ++ t552).size + t556.size ≤ 9223372036854775807 then ((some (([0, ((((((t540 ++ t544) ++ t548) ++ t552) ++ t556).size : Int)) % 256] : List Int) : List Int)).bind fun y557 => (if 2 + (strOfNums y557).size ≤ 9223372036854775807 then (if ((⟨#[130, 128]⟩ : ByteArray) ++ (strOfNums y557)).size + ((((t540 ++ t544) ++ t548) ++ t552) ++ t556).size ≤ 9223372036854775807 then (some (((⟨#[130, 128]⟩ : ByteArray) ++ (strOfNums y557)) ++ ((((t540 ++ t544) ++ t548) ++ t552) ++ t556), 0)) else (none)) else (none))) else (none))) else (none))) else (none))) else (none))) = some (r1, r2) := by first | (rw [hy541]; with_reducible exact H) | (have H2_ := (Option.bind_some _ _).symm.trans H; rw [hy541]; with_reducible exact H2_) | (have H2_ := (Option.bind_some _ _).symm.trans H; with_reducible exact H2_) | with_reducible exact H | (rw [hy541]; exact H) | exact H
  have Ny541 := Aside0.mk hy541
  clear hy541
  replace H := Option.bind_eq_some_iff.mp H
  obtain ⟨t544, A70, H⟩ := H
  replace H : (if t540.size + t544.size ≤ 9223372036854775807 then ((xid_field.f k 8 (([a0_3] : List Int))).bind fun t548 => (if (t540 ++ t544).size + t548.size ≤ 9223372036854775807 then ((xid_field.f k 9 (([a0_4] : List Int))).bind fun t552 => (if ((t540 ++ t544) ++ t548).size + t552.size ≤ 9223372036854775807 then ((xid_field.f k 10 (([a0_5] : List Int))).bind fun t556 => (if (((t540 ++ t544) ++ t548) ++ t552).size + t556.size ≤ 9223372036854775807 then ((some (([0, ((((((t540 ++ t544) ++ t548) ++ t552) ++ t556).size : Int)) % 256] : List Int) : List Int)).bind fun y557 => (if 2 + (strOfNums y557).size ≤ 9223372036854775807 then (if ((⟨#[130, 128]⟩ : ByteArray) ++ (strOfNums y557)).size + ((((t540 ++ t544) ++ t548) ++ t552) ++ t556).size ≤ 9223372036854775807 then (some (((⟨#[130, 128]⟩ : ByteArray) ++ (strOfNums y557)) ++ ((((t540 ++ t544) ++ t548) ++ t552) ++ t556), 0)) else (none)) else (none))) else (none))) else (none))) else (none))) else (none)) = some (r1, r2) := H
  have A7 := Aside0.mk A70
  clear A70
  by_cases c8 : t540.size + t544.size ≤ 9223372036854775807
  ·rw [if_pos c8] at H
   have c8b0 := eq_true c8
   have c8b1 : decide (t540.size + t544.size ≤ 9223372036854775807) = true := decide_eq_true c8
   try have c8b2 : (9223372036854775807 < t540.size + t544.size) = False := eq_false (Nat.not_lt.2 c8)
   obtain ⟨y545, hy545⟩ : ∃ y_ : List Int, y_ = (([a0_3] : List Int)) := ⟨_, rfl⟩
   replace H : ((xid_field.f k 8 y545).bind fun t548 => (if (t540 ++ t544).size + t548.size ≤ 9223372036854775807 then ((xid_field.f k 9 (([a0_4] : List Int))).bind fun t552 => (if ((t540 ++ t544) ++ t548).size + t552.size ≤ 9223372036854775807 then ((xid_field.f k 10 (([a0_5] : List Int))).bind fun t556 => (if (((t540 ++ t544) ++ t548) ++ t552).size + t556.size ≤ 9223372036854775807 then ((some (([0, ((((((t540 ++ t544) ++ t548) ++ t552) ++ t556).size : Int)) % 256] : List Int) : List Int)).bind fun y557 => (if 2 + (strOfNums y557).size ≤ 9223372036854775807 then (if ((⟨#[130, 128]⟩ : ByteArray) ++ (strOfNums y557)).size + ((((t540 ++ t544) ++ t548) ++ t552) ++ t556).size ≤ 9223372036854775807 then (some (((⟨#[130, 128]⟩ : ByteArray) ++ (strOfNums y557)) ++ ((((t540 ++ t544) ++ t548) ++ t552) ++ t556), 0)) else (none)) else (none))) else (none))) else (none))) else (none))) = some (r1, r2) := by first | (rw [hy545]; with_reducible exact H) | (have H2_ := (Option.bind_some _ _).symm.trans H; rw [hy545]; with_reducible exact H2_) | (have H2_ := (Option.bind_some _ _).symm.trans H; with_reducible exact H2_) | with_reducible exact H | (rw [hy545]; exact H) | exact H
   have Ny545 := Aside0.mk hy545
   clear hy545
   replace H := Option.bind_eq_some_iff.mp H
   obtain ⟨t548, A90, H⟩ := H
   replace H : (if (t540 ++ t544).size + t548.size ≤ 9223372036854775807 then ((xid_field.f k 9 (([a0_4] : List Int))).bind fun t552 => (if ((t540 ++ t544) ++ t548).size + t552.size ≤ 9223372036854775807 then ((xid_field.f k 10 (([a0_5] : List Int))).bind fun t556 => (if (((t540 ++ t544) ++ t548) ++ t552).size + t556.size ≤ 9223372036854775807 then ((some (([0, ((((((t540 ++ t544) ++ t548) ++ t552) ++ t556).size : Int)) % 256] : List Int) : List Int)).bind fun y557 => (if 2 + (strOfNums y557).size ≤ 9223372036854775807 then (if ((⟨#[130, 128]⟩ : ByteArray) ++ (strOfNums y557)).size + ((((t540 ++ t544) ++ t548) ++ t552) ++ t556).size ≤ 9223372036854775807 then (some (((⟨#[130, 128]⟩ : ByteArray) ++ (strOfNums y557)) ++ ((((t540 ++ t544) ++ t548) ++ t552) ++ t556), 0)) else (none)) else (none))) else (none))) else (none))) else (none)) = some (r1, r2) := H
   have A9 := Aside0.mk A90
   clear A90
   by_cases c10 : (t540 ++ t544).size + t548.size ≤ 9223372036854775807
   ·rw [if_pos c10] at H
    have c10b0 := eq_true c10
    have c10b1 : decide ((t540 ++ t544).size + t548.size ≤ 9223372036854775807) = true := decide_eq_true c10
    try have c10b2 : (9223372036854775807 < (t540 ++ t544).size + t548.size) = False := eq_false (Nat.not_lt.2 c10)
    (try (have c10b5 := c10b2; simp only [ByteArray.size_append] at c10b5))
    obtain ⟨y549, hy549⟩ : ∃ y_ : List Int, y_ = (([a0_4] : List Int)) := ⟨_, rfl⟩
    replace H : ((xid_field.f k 9 y549).bind fun t552 => (if ((t540 ++ t544) ++ t548).size + t552.size ≤ 9223372036854775807 then ((xid_field.f k 10 (([a0_5] : List Int))).bind fun t556 => (if (((t540 ++ t544) ++ t548) ++ t552).size + t556.size ≤ 9223372036854775807 then ((some (([0, ((((((t540 ++ t544) ++ t548) ++ t552) ++ t556).size : Int)) % 256] : List Int) : List Int)).bind fun y557 => (if 2 + (strOfNums y557).size ≤ 9223372036854775807 then (if ((⟨#[130, 128]⟩ : ByteArray) ++ (strOfNums y557)).size + ((((t540 ++ t544) ++ t548) ++ t552) ++ t556).size ≤ 9223372036854775807 then (some (((⟨#[130, 128]⟩ : ByteArray) ++ (strOfNums y557)) ++ ((((t540 ++ t544) ++ t548) ++ t552) ++ t556), 0)) else (none)) else (none))) else (none))) else (none))) = some (r1, r2) := by first | (rw [hy549]; with_reducible exact H) | (have H2_ := (Option.bind_some _ _).symm.trans H; rw [hy549]; with_reducible exact H2_) | (have H2_ := (Option.bind_some _ _).symm.trans H; with_reducible exact H2_) | with_reducible exact H | (rw [hy549]; exact H) | exact H
    have Ny549 := Aside0.mk hy549
    clear hy549
    replace H := Option.bind_eq_some_iff.mp H
    obtain ⟨t552, A110, H⟩ := H
    replace H : (if ((t540 ++ t544) ++ t548).size + t552.size ≤ 9223372036854775807 then ((xid_field.f k 10 (([a0_5] : List Int))).bind fun t556 => (if (((t540 ++ t544) ++ t548) ++ t552).size + t556.size ≤ 9223372036854775807 then ((some (([0, ((((((t540 ++ t544) ++ t548) ++ t552) ++ t556).size : Int)) % 256] : List Int) : List Int)).bind fun y557 => (if 2 + (strOfNums y557).size ≤ 9223372036854775807 then (if ((⟨#[130, 128]⟩ : ByteArray) ++ (strOfNums y557)).size + ((((t540 ++ t544) ++ t548) ++ t552) ++ t556).size ≤ 9223372036854775807 then (some (((⟨#[130, 128]⟩ : ByteArray) ++ (strOfNums y557)) ++ ((((t540 ++ t544) ++ t548) ++ t552) ++ t556), 0)) else (none)) else (none))) else (none))) else (none)) = some (r1, r2) := H
    have A11 := Aside0.mk A110
    clear A110
    by_cases c12 : ((t540 ++ t544) ++ t548).size + t552.size ≤ 9223372036854775807
    ·rw [if_pos c12] at H
     have c12b0 := eq_true c12
     have c12b1 : decide (((t540 ++ t544) ++ t548).size + t552.size ≤ 9223372036854775807) = true := decide_eq_true c12
     try have c12b2 : (9223372036854775807 < ((t540 ++ t544) ++ t548).size + t552.size) = False := eq_false (Nat.not_lt.2 c12)
     (try (have c12b5 := c12b2; simp only [ByteArray.size_append] at c12b5))
     obtain ⟨y553, hy553⟩ : ∃ y_ : List Int, y_ = (([a0_5] : List Int)) := ⟨_, rfl⟩
     replace H : ((xid_field.f k 10 y553).bind fun t556 => (if (((t540 ++ t544) ++ t548) ++ t552).size + t556.size ≤ 9223372036854775807 then ((some (([0, ((((((t540 ++ t544) ++ t548) ++ t552) ++ t556).size : Int)) % 256] : List Int) : List Int)).bind fun y557 => (if 2 + (strOfNums y557).size ≤ 9223372036854775807 then (if ((⟨#[130, 128]⟩ : ByteArray) ++ (strOfNums y557)).size + ((((t540 ++ t544) ++ t548) ++ t552) ++ t556).size ≤ 9223372036854775807 then (some (((⟨#[130, 128]⟩ : ByteArray) ++ (strOfNums y557)) ++ ((((t540 ++ t544) ++ t548) ++ t552) ++ t556), 0)) else (none)) else (none))) else (none))) = some (r1, r2) := by first | (rw [hy553]; with_reducible exact H) | (have H2_ := (Option.bind_some _ _).symm.trans H; rw [hy553]; with_reducible exact H2_) | (have H2_ := (Option.bind_some _ _).symm.trans H; with_reducible exact H2_) | with_reducible exact H | (rw [hy553]; exact H) | exact H
     have Ny553 := Aside0.mk hy553
     clear hy553
     replace H := Option.bind_eq_some_iff.mp H
     obtain ⟨t556, A130, H⟩ := H
     replace H : (if (((t540 ++ t544) ++ t548) ++ t552).size + t556.size ≤ 9223372036854775807 then ((some (([0, ((((((t540 ++ t544) ++ t548) ++ t552) ++ t556).size : Int)) % 256] : List Int) : List Int)).bind fun y557 => (if 2 + (strOfNums y557).size ≤ 9223372036854775807 then (if ((⟨#[130, 128]⟩ : ByteArray) ++ (strOfNums y557)).size + ((((t540 ++ t544) ++ t548) ++ t552) ++ t556).size ≤ 9223372036854775807 then (some (((⟨#[130, 128]⟩ : ByteArray) ++ (strOfNums y557)) ++ ((((t540 ++ t544) ++ t548) ++ t552) ++ t556), 0)) else (none)) else (none))) else (none)) = some (r1, r2) := H
     have A13 := Aside0.mk A130
     clear A130
     by_cases c14 : (((t540 ++ t544) ++ t548) ++ t552).size + t556.size ≤ 9223372036854775807
     ·rw [if_pos c14] at H
      have c14b0 := eq_true c14
      have c14b1 : decide ((((t540 ++ t544) ++ t548) ++ t552).size + t556.size ≤ 9223372036854775807) = true := decide_eq_true c14
      try have c14b2 : (9223372036854775807 < (((t540 ++ t544) ++ t548) ++ t552).size + t556.size) = False := eq_false (Nat.not_lt.2 c14)
      (try (have c14b5 := c14b2; simp only [ByteArray.size_append] at c14b5))
      obtain ⟨y557, hy557⟩ : ∃ y_ : List Int, y_ = (([0, ((((((t540 ++ t544) ++ t548) ++ t552) ++ t556).size : Int)) % 256] : List Int)) := ⟨_, rfl⟩
      replace H : (if 2 + (strOfNums y557).size ≤ 9223372036854775807 then (if ((⟨#[130, 128]⟩ : ByteArray) ++ (strOfNums y557)).size + ((((t540 ++ t544) ++ t548) ++ t552) ++ t556).size ≤ 9223372036854775807 then (some (((⟨#[130, 128]⟩ : ByteArray) ++ (strOfNums y557)) ++ ((((t540 ++ t544) ++ t548) ++ t552) ++ t556), 0)) else (none)) else (none)) = some (r1, r2) := by first | (rw [hy557]; with_reducible exact H) | (have H2_ := (Option.bind_some _ _).symm.trans H; rw [hy557]; with_reducible exact H2_) | (have H2_ := (Option.bind_some _ _).symm.trans H; with_reducible exact H2_) | with_reducible exact H | (rw [hy557]; exact H) | exact H
      have Ny557 := Aside0.mk hy557
      clear hy557
      by_cases c15 : 2 + (strOfNums y557).size ≤ 9223372036854775807
      ·rw [if_pos c15] at H
       have c15b0 := eq_true c15
       have c15b1 : decide (2 + (strOfNums y557).size ≤ 9223372036854775807) = true := decide_eq_true c15
       try have c15b2 : (9223372036854775807 < 2 + (strOfNums y557).size) = False := eq_false (Nat.not_lt.2 c15)
       by_cases c16 : ((⟨#[130, 128]⟩ : ByteArray) ++ (strOfNums y557)).size + ((((t540 ++ t544) ++ t548) ++ t552) ++ t556).size ≤ 9223372036854775807
       ·rw [if_pos c16] at H
        have c16b0 := eq_true c16
        have c16b1 : decide (((⟨#[130, 128]⟩ : ByteArray) ++ (strOfNums y557)).size + ((((t540 ++ t544) ++ t548) ++ t552) ++ t556).size ≤ 9223372036854775807) = true := decide_eq_true c16
        try have c16b2 : (9223372036854775807 < ((⟨#[130, 128]⟩ : ByteArray) ++ (strOfNums y557)).size + ((((t540 ++ t544) ++ t548) ++ t552) ++ t556).size) = False := eq_false (Nat.not_lt.2 c16)
        (try (have c16b5 := c16b2; simp only [ByteArray.size_append, show (⟨#[130, 128]⟩ : ByteArray).size = 2 from rfl] at c16b5))
        simp only [Option.some.injEq, Prod.mk.injEq] at H
        obtain ⟨rfl, rfl⟩ := H
        go_enter Tryd.func74, Tryd.ntmps74
        try go_wp2_with (first | ((with_reducible refine gate_dst (N := 1) rfl ?_); refine box_event ?hg (N := 1) ?hd (cs := #[.bool a0_0, .bool a0_1, .int .i64 a0_2, .int .i64 a0_3, .int .i64 a0_4, .int .i64 a0_5]) (t := 72) ?hr ?_; (case hd => rfl); (case hg => rfl); (case hr => first | (go_simp; done) | (go_simp; rfl)); intro gb533 hg w17 hbox hb; have n0_ := Aside0.mk (below_step (by repeat (first | (with_reducible first | exact HB.out | apply below_alloc | apply pw_below_drewN | apply below_drew1) | exact HB.out)) hb); have n1_ := Aside0.mk (hbox); have n2_ := Aside0.mk ((by rw [hg]; exact (below_size (by repeat (first | (with_reducible first | exact HB.out | apply below_alloc | apply pw_below_drewN | apply below_drew1) | exact HB.out))) : w.heap.size ≤ gb533)); have n3_ := Aside0.mk ((by rw [hg]; exact (below_size (by repeat (first | (with_reducible first | exact HB.out | apply below_alloc | apply pw_below_drewN | apply below_drew1) | exact HB.out))) : w.heap.size ≤ gb533)); clear HB; have HB := n0_; have BK533 := n1_; have GW533 := n2_; have GE533 := n3_; clear n0_ n1_ n2_ n3_; clear hb hbox hg; have hcz18_0 : w17.cell? ⟨gb533, 0, none⟩ = some (.bool a0_0) := (blk_cell BK533.out 0).trans rfl; have hcz18_1 : w17.cell? ⟨gb533, 1, none⟩ = some (.bool a0_1) := (blk_cell BK533.out 1).trans rfl; have hcz18_2 : w17.cell? ⟨gb533, 2, none⟩ = some (.int .i64 a0_2) := (blk_cell BK533.out 2).trans rfl; have hcz18_3 : w17.cell? ⟨gb533, 3, none⟩ = some (.int .i64 a0_3) := (blk_cell BK533.out 3).trans rfl; have hcz18_4 : w17.cell? ⟨gb533, 4, none⟩ = some (.int .i64 a0_4) := (blk_cell BK533.out 4).trans rfl; have hcz18_5 : w17.cell? ⟨gb533, 5, none⟩ = some (.int .i64 a0_5) := (blk_cell BK533.out 5).trans rfl; have hfz18_0 := blk_frozen BK533.out 0; have hfz18_1 := blk_frozen BK533.out 1; have hfz18_2 := blk_frozen BK533.out 2; have hfz18_3 := blk_frozen BK533.out 3; have hfz18_4 := blk_frozen BK533.out 4; have hfz18_5 := blk_frozen BK533.out 5) | ((with_reducible refine gate_callee (f := 51) rfl ?_); refine goesL_ (some 6) rfl rfl Tryd.func51 (by kernel_rfl) rfl #[.agg #[.bool a0_0, .bool a0_1, .int .i64 a0_2, .int .i64 a0_3, .int .i64 a0_4, .int .i64 a0_5]] rfl (by (try simp only [List.map_toArray, List.map_cons, List.map_nil]); first | done | rfl | (simp only [List.length_drop, List.length_take]; rfl)) ?_; (with_reducible refine (xid_Right.calls a0_0 a0_1 a0_2 a0_3 a0_4 a0_5 true _ A2.out).mono ?_); rintro e w19 ⟨rfl, hb⟩; refine ⟨_, rfl, ?_⟩; have n0_ := Aside0.mk (blk_below (g := gb533) (o := .cells #[.bool a0_0, .bool a0_1, .int .i64 a0_2, .int .i64 a0_3, .int .i64 a0_4, .int .i64 a0_5] 72 (0, 0)) (by (with_reducible repeat (first | refine blk_drewN ?_ _ | refine blk_drew ?_ | refine blk_alloc ?_ _)); exact BK533.out) hb); have n1_ := Aside0.mk (below_step (by repeat (first | (with_reducible first | exact HB.out | apply below_alloc | apply pw_below_drewN | apply below_drew1 | refine below_set ?_ GE533.out) | exact HB.out)) hb); clear BK533; clear HB; have BK533 := n0_; have HB := n1_; clear n0_ n1_; (try clear hb); (try clear hb2); (try clear hk); (try clear hi)))
        have n0_ := Aside0.mk (blk_drew BK533.out)
        have n1_ := Aside0.mk (below_drew1 HB.out)
        clear BK533
        clear HB
        have BK533 := n0_
        have HB := n1_
        clear n0_ n1_
        refine start_ (n := 34) (S := fun w' => True) (ds := []) #[false, false, false, false, false, false, false, false, false, false, false, false, false, false, false, false, false, false, false, false, false, false, false, false, false, false, false, false, false, false, false, false, false, false] (by kernel_rfl) rfl rfl trivial (fun hHeld => ?_); refine with_tabW xid_Put.tab3 xid_Put.bits3 (fun HT_ HW_ => ?_)
        generalize w19.drew = w20 at BK533 HB hHeld ⊢
        refine pure_ (i := 0) (N := some 8) (v := ?_) (a' := ?_) #[true, false, false, false, false, false, false, false, false, false, false, false, false, false, false, false, false, false, false, false, false, false, false, false, false, false, false, false, false, false, false, false, false, false] rfl rfl (any_of HT_.out (by kernel_rfl)) (fun _ _ _ h => h) (Or.inl ⟨by rfl, ?_⟩) ?_ ?_
        rotate_left
        ·intro w'
         go_simp
         with_reducible rfl
        rotate_left
        ·simp only [Act.put, List.setIfInBounds_toArray, List.set_cons_zero, List.set_cons_succ, i64_w, i32_w]
         rfl
        refine pure_ (i := 3) (N := some 11) (v := ?_) (a' := ?_) #[true, false, false, true, false, false, false, false, false, false, false, false, false, false, false, false, false, false, false, false, false, false, false, false, false, false, false, false, false, false, false, false, false, false] rfl rfl (any_of HT_.out (by kernel_rfl)) (fun _ _ _ h => h) (Or.inl ⟨by rfl, ?_⟩) ?_ ?_
        rotate_left
        ·intro w'
         go_simp
         with_reducible rfl
        rotate_left
        ·simp only [Act.put, List.setIfInBounds_toArray, List.set_cons_zero, List.set_cons_succ, i64_w, i32_w]
         rfl
        refine pure_ (i := 9) (N := some 17) (v := ?_) (a' := ?_) #[true, false, false, true, false, false, false, false, false, true, false, false, false, false, false, false, false, false, false, false, false, false, false, false, false, false, false, false, false, false, false, false, false, false] rfl rfl (any_of HT_.out (by kernel_rfl)) (fun _ _ _ h => h) (Or.inl ⟨by rfl, ?_⟩) ?_ ?_
        rotate_left
        ·intro w'
         go_simp
         with_reducible rfl
        rotate_left
        ·simp only [Act.put, List.setIfInBounds_toArray, List.set_cons_zero, List.set_cons_succ, i64_w, i32_w]
         rfl
        refine pure_ (i := 12) (N := some 20) (v := ?_) (a' := ?_) #[true, false, false, true, false, false, false, false, false, true, false, false, true, false, false, false, false, false, false, false, false, false, false, false, false, false, false, false, false, false, false, false, false, false] rfl rfl (any_of HT_.out (by kernel_rfl)) (fun _ _ _ h => h) (Or.inl ⟨by rfl, ?_⟩) ?_ ?_
        rotate_left
        ·intro w'
         go_simp
         with_reducible rfl
        rotate_left
        ·simp only [Act.put, List.setIfInBounds_toArray, List.set_cons_zero, List.set_cons_succ, i64_w, i32_w]
         rfl
        refine pure_ (i := 18) (N := some 26) (v := ?_) (a' := ?_) #[true, false, false, true, false, false, false, false, false, true, false, false, true, false, false, false, false, false, true, false, false, false, false, false, false, false, false, false, false, false, false, false, false, false] rfl rfl (any_of HT_.out (by kernel_rfl)) (fun _ _ _ h => h) (Or.inl ⟨by rfl, ?_⟩) ?_ ?_
        rotate_left
        ·intro w'
         go_simp
         with_reducible rfl
        rotate_left
        ·simp only [Act.put, List.setIfInBounds_toArray, List.set_cons_zero, List.set_cons_succ, i64_w, i32_w]
         rfl
        refine pure_ (i := 23) (N := some 31) (v := ?_) (a' := ?_) #[true, false, false, true, false, false, false, false, false, true, false, false, true, false, false, false, false, false, true, false, false, false, false, true, false, false, false, false, false, false, false, false, false, false] rfl rfl (any_of HT_.out (by kernel_rfl)) (fun _ _ _ h => h) (Or.inl ⟨by rfl, ?_⟩) ?_ ?_
        rotate_left
        ·intro w'
         go_simp
         with_reducible rfl
        rotate_left
        ·simp only [Act.put, List.setIfInBounds_toArray, List.set_cons_zero, List.set_cons_succ, i64_w, i32_w]
         rfl
        refine pure_ (i := 28) (N := some 36) (v := ?_) (a' := ?_) #[true, false, false, true, false, false, false, false, false, true, false, false, true, false, false, false, false, false, true, false, false, false, false, true, false, false, false, false, true, false, false, false, false, false] rfl rfl (any_of HT_.out (by kernel_rfl)) (fun _ _ _ h => h) (Or.inl ⟨by rfl, ?_⟩) ?_ ?_
        rotate_left
        ·intro w'
         go_simp
         with_reducible rfl
        rotate_left
        ·simp only [Act.put, List.setIfInBounds_toArray, List.set_cons_zero, List.set_cons_succ, i64_w, i32_w]
         rfl
        refine inv_at [1, 2, 4, 5, 6, 7, 8, 10, 11, 13, 14, 15, 16, 17, 19, 20, 21, 22, 24, 25, 26, 27, 29, 30, 31, 32, 33] (fun a0_ b a w' => ∃ (v538 : Value) (v542 : Value) (v546 : Value) (v550 : Value) (v554 : Value), a = putSel a0_ b [(1, 9, .bool a0_0), (2, 10, .int .i64 t535), (4, 12, .bool a0_1), (5, 13, .int .i64 t536), (6, 14, .int .i64 (Go.bits .or .i64 t535 t536)), (7, 15, v538), (8, 16, .string t540), (10, 18, .int .i64 a0_2), (11, 19, .int .i64 (a0_2 / 256)), (13, 21, .int .i64 a0_2), (14, 22, .int .i64 (Go.bits .and .i64 a0_2 255)), (15, 23, v542), (16, 24, .string t544), (17, 25, .string (t540 ++ t544)), (19, 27, .int .i64 a0_3), (20, 28, v546), (21, 29, .string t548), (22, 30, .string ((t540 ++ t544) ++ t548)), (24, 32, .int .i64 a0_4), (25, 33, v550), (26, 34, .string t552), (27, 35, .string (((t540 ++ t544) ++ t548) ++ t552)), (29, 37, .int .i64 a0_5), (30, 38, v554), (31, 39, .string t556), (32, 40, .string ((((t540 ++ t544) ++ t548) ++ t552) ++ t556)), (33, 4, .string ((((t540 ++ t544) ++ t548) ++ t552) ++ t556))] ∧ (w'.heap[gb533]? = some (.cells #[.bool a0_0, .bool a0_1, .int .i64 a0_2, .int .i64 a0_3, .int .i64 a0_4, .int .i64 a0_5] 72 (0, 0))) ∧ (Below w.heap.size w w') ∧ (b 7 = true → Kd.R (Kd.int .i64) 3 w' w.heap.size (fun _ => True) v538 y537) ∧ (b 15 = true → Kd.R (Kd.int .i64) 3 w' w.heap.size (fun _ => True) v542 y541) ∧ (b 20 = true → Kd.R (Kd.int .i64) 3 w' w.heap.size (fun _ => True) v546 y545) ∧ (b 25 = true → Kd.R (Kd.int .i64) 3 w' w.heap.size (fun _ => True) v550 y549) ∧ (b 30 = true → Kd.R (Kd.int .i64) 3 w' w.heap.size (fun _ => True) v554 y553)) HT_.out HW_.out (by kernel_rfl) (by kernel_rfl) ?_ ?_ ?_
        ·exact ⟨.bool false, .bool false, .bool false, .bool false, .bool false, by simp only [putSel, Bool.false_eq_true, if_false], BK533.out, HB.out, fun h_ => absurd h_ (by decide), fun h_ => absurd h_ (by decide), fun h_ => absurd h_ (by decide), fun h_ => absurd h_ (by decide), fun h_ => absurd h_ (by decide)⟩
        ·skip
         clear BK533 HB
         refine steps_cons ?_ ?_
         ·rintro b a w' ⟨v538, v542, v546, v550, v554, ha, Q_BK533, Q_HB, Q_HO539, Q_HO543, Q_HO547, Q_HO551, Q_HO555⟩ hb_ hon hoff
          refine ⟨_, rfl, fun K hK => ?_⟩
          have e8 : a.tmps[8]? = some (.pointer (some ⟨gb533, 0, none⟩)) := by rw [ha]; exact (putSel_off rfl).trans rfl
          replace ha := Aside0.mk ha
          have BK533 := Aside0.mk Q_BK533
          have HB := Aside0.mk Q_HB
          have hc0_ : w'.cell? ⟨gb533, 0, none⟩ = some (.bool a0_0) := (blk_cell BK533.out 0).trans rfl
          have hc1_ : w'.cell? ⟨gb533, 1, none⟩ = some (.bool a0_1) := (blk_cell BK533.out 1).trans rfl
          have hc2_ : w'.cell? ⟨gb533, 2, none⟩ = some (.int .i64 a0_2) := (blk_cell BK533.out 2).trans rfl
          have hc3_ : w'.cell? ⟨gb533, 3, none⟩ = some (.int .i64 a0_3) := (blk_cell BK533.out 3).trans rfl
          have hc4_ : w'.cell? ⟨gb533, 4, none⟩ = some (.int .i64 a0_4) := (blk_cell BK533.out 4).trans rfl
          have hc5_ : w'.cell? ⟨gb533, 5, none⟩ = some (.int .i64 a0_5) := (blk_cell BK533.out 5).trans rfl
          refine value_ (w1 := w') (v := .bool a0_0) (by rfl) rfl ?_ ?_
          ·go_simp
           (try simp only [i64_w])
           try rfl
           all_goals (try ((try simp only [ByteArray.size_append] at *); omega))
          refine hK.out _ _ ⟨v538, v542, v546, v550, v554, (by rw [ha.out]; exact putSel_upk 0 hb_ rfl rfl rfl), Q_BK533, Q_HB, fun h0_ => absurd ((hoff 7 (by kernel_rfl)).symm.trans h0_) (by decide), Q_HO543, Q_HO547, Q_HO551, Q_HO555⟩
         refine steps_cons ?_ ?_
         ·rintro b a w' ⟨v538, v542, v546, v550, v554, ha, Q_BK533, Q_HB, Q_HO539, Q_HO543, Q_HO547, Q_HO551, Q_HO555⟩ hb_ hon hoff
          refine ⟨_, rfl, fun K hK => ?_⟩
          have e9 : a.tmps[9]? = some (.bool a0_0) := by rw [ha]; exact putSel_on (e := (1, 9, .bool a0_0)) 0 rfl rfl (hon 1 (by kernel_rfl)) rfl
          replace ha := Aside0.mk ha
          have BK533 := Aside0.mk Q_BK533
          have HB := Aside0.mk Q_HB
          refine goes_ Tryd.func96 (by kernel_rfl) rfl #[.bool a0_0, .int .i64 2] (by rfl) rfl rfl (by first | (simp only [List.map_toArray, List.map_cons, List.map_nil, Act.eval, Array.getD_eq_getD_getElem?, Option.getD_some, e9]; done) | (simp only [List.map_toArray, List.map_cons, List.map_nil, Act.eval, Array.getD_eq_getD_getElem?, Option.getD_some, e9]; rfl)) ?_
          with_reducible refine (xid_bit.calls a0_0 2 t535 _ A4.out).mono ?_
          rintro e w' ⟨rfl, ⟨nd, rfl⟩⟩
          refine ⟨_, rfl, ?_⟩
          refine hK.out _ _ ⟨v538, v542, v546, v550, v554, (by rw [ha.out]; exact putSel_upk 1 hb_ rfl rfl rfl), (by (with_reducible repeat (first | refine blk_drewN ?_ _ | refine blk_drew ?_ | refine blk_alloc ?_ _)); exact BK533.out), (by repeat (first | (with_reducible first | exact HB.out | apply below_alloc | apply pw_below_drewN | apply below_drew1 | refine below_set ?_ GE533.out) | exact HB.out)), fun h0_ => absurd ((hoff 7 (by kernel_rfl)).symm.trans h0_) (by decide), fun h0_ => (by (with_reducible repeat (first | apply Kd.R_alloc | apply Kd.R_drewN | apply Kd.R_drew)); exact (Q_HO543 h0_)), fun h0_ => (by (with_reducible repeat (first | apply Kd.R_alloc | apply Kd.R_drewN | apply Kd.R_drew)); exact (Q_HO547 h0_)), fun h0_ => (by (with_reducible repeat (first | apply Kd.R_alloc | apply Kd.R_drewN | apply Kd.R_drew)); exact (Q_HO551 h0_)), fun h0_ => (by (with_reducible repeat (first | apply Kd.R_alloc | apply Kd.R_drewN | apply Kd.R_drew)); exact (Q_HO555 h0_))⟩
         refine steps_cons ?_ ?_
         ·rintro b a w' ⟨v538, v542, v546, v550, v554, ha, Q_BK533, Q_HB, Q_HO539, Q_HO543, Q_HO547, Q_HO551, Q_HO555⟩ hb_ hon hoff
          refine ⟨_, rfl, fun K hK => ?_⟩
          have e11 : a.tmps[11]? = some (.pointer (some ⟨gb533, 1, none⟩)) := by rw [ha]; exact (putSel_off rfl).trans rfl
          replace ha := Aside0.mk ha
          have BK533 := Aside0.mk Q_BK533
          have HB := Aside0.mk Q_HB
          have hc0_ : w'.cell? ⟨gb533, 0, none⟩ = some (.bool a0_0) := (blk_cell BK533.out 0).trans rfl
          have hc1_ : w'.cell? ⟨gb533, 1, none⟩ = some (.bool a0_1) := (blk_cell BK533.out 1).trans rfl
          have hc2_ : w'.cell? ⟨gb533, 2, none⟩ = some (.int .i64 a0_2) := (blk_cell BK533.out 2).trans rfl
          have hc3_ : w'.cell? ⟨gb533, 3, none⟩ = some (.int .i64 a0_3) := (blk_cell BK533.out 3).trans rfl
          have hc4_ : w'.cell? ⟨gb533, 4, none⟩ = some (.int .i64 a0_4) := (blk_cell BK533.out 4).trans rfl
          have hc5_ : w'.cell? ⟨gb533, 5, none⟩ = some (.int .i64 a0_5) := (blk_cell BK533.out 5).trans rfl
          refine value_ (w1 := w') (v := .bool a0_1) (by rfl) rfl ?_ ?_
          ·go_simp
           (try simp only [i64_w])
           try rfl
           all_goals (try ((try simp only [ByteArray.size_append] at *); omega))
          refine hK.out _ _ ⟨v538, v542, v546, v550, v554, (by rw [ha.out]; exact putSel_upk 2 hb_ rfl rfl rfl), Q_BK533, Q_HB, fun h0_ => absurd ((hoff 7 (by kernel_rfl)).symm.trans h0_) (by decide), Q_HO543, Q_HO547, Q_HO551, Q_HO555⟩
         refine steps_cons ?_ ?_
         ·rintro b a w' ⟨v538, v542, v546, v550, v554, ha, Q_BK533, Q_HB, Q_HO539, Q_HO543, Q_HO547, Q_HO551, Q_HO555⟩ hb_ hon hoff
          refine ⟨_, rfl, fun K hK => ?_⟩
          have e12 : a.tmps[12]? = some (.bool a0_1) := by rw [ha]; exact putSel_on (e := (4, 12, .bool a0_1)) 2 rfl rfl (hon 4 (by kernel_rfl)) rfl
          replace ha := Aside0.mk ha
          have BK533 := Aside0.mk Q_BK533
          have HB := Aside0.mk Q_HB
          refine goes_ Tryd.func96 (by kernel_rfl) rfl #[.bool a0_1, .int .i64 4] (by rfl) rfl rfl (by first | (simp only [List.map_toArray, List.map_cons, List.map_nil, Act.eval, Array.getD_eq_getD_getElem?, Option.getD_some, e12]; done) | (simp only [List.map_toArray, List.map_cons, List.map_nil, Act.eval, Array.getD_eq_getD_getElem?, Option.getD_some, e12]; rfl)) ?_
          with_reducible refine (xid_bit.calls a0_1 4 t536 _ A5.out).mono ?_
          rintro e w' ⟨rfl, ⟨nd, rfl⟩⟩
          refine ⟨_, rfl, ?_⟩
          refine hK.out _ _ ⟨v538, v542, v546, v550, v554, (by rw [ha.out]; exact putSel_upk 3 hb_ rfl rfl rfl), (by (with_reducible repeat (first | refine blk_drewN ?_ _ | refine blk_drew ?_ | refine blk_alloc ?_ _)); exact BK533.out), (by repeat (first | (with_reducible first | exact HB.out | apply below_alloc | apply pw_below_drewN | apply below_drew1 | refine below_set ?_ GE533.out) | exact HB.out)), fun h0_ => absurd ((hoff 7 (by kernel_rfl)).symm.trans h0_) (by decide), fun h0_ => (by (with_reducible repeat (first | apply Kd.R_alloc | apply Kd.R_drewN | apply Kd.R_drew)); exact (Q_HO543 h0_)), fun h0_ => (by (with_reducible repeat (first | apply Kd.R_alloc | apply Kd.R_drewN | apply Kd.R_drew)); exact (Q_HO547 h0_)), fun h0_ => (by (with_reducible repeat (first | apply Kd.R_alloc | apply Kd.R_drewN | apply Kd.R_drew)); exact (Q_HO551 h0_)), fun h0_ => (by (with_reducible repeat (first | apply Kd.R_alloc | apply Kd.R_drewN | apply Kd.R_drew)); exact (Q_HO555 h0_))⟩
         refine steps_cons ?_ ?_
         ·rintro b a w' ⟨v538, v542, v546, v550, v554, ha, Q_BK533, Q_HB, Q_HO539, Q_HO543, Q_HO547, Q_HO551, Q_HO555⟩ hb_ hon hoff
          refine ⟨_, rfl, fun K hK => ?_⟩
          have e10 : a.tmps[10]? = some (.int .i64 t535) := by rw [ha]; exact putSel_on (e := (2, 10, .int .i64 t535)) 1 rfl rfl (hon 2 (by kernel_rfl)) rfl
          have e13 : a.tmps[13]? = some (.int .i64 t536) := by rw [ha]; exact putSel_on (e := (5, 13, .int .i64 t536)) 3 rfl rfl (hon 5 (by kernel_rfl)) rfl
          replace ha := Aside0.mk ha
          have BK533 := Aside0.mk Q_BK533
          have HB := Aside0.mk Q_HB
          refine value_ (w1 := w') (v := .int .i64 (Go.bits .or .i64 t535 t536)) (by rfl) rfl ?_ ?_
          ·go_simp
           (try simp only [i64_w])
           try rfl
           all_goals (try ((try simp only [ByteArray.size_append] at *); omega))
          refine hK.out _ _ ⟨v538, v542, v546, v550, v554, (by rw [ha.out]; exact putSel_upk 4 hb_ rfl rfl rfl), Q_BK533, Q_HB, fun h0_ => absurd ((hoff 7 (by kernel_rfl)).symm.trans h0_) (by decide), Q_HO543, Q_HO547, Q_HO551, Q_HO555⟩
         refine steps_cons ?_ ?_
         ·rintro b a w' ⟨v538, v542, v546, v550, v554, ha, Q_BK533, Q_HB, Q_HO539, Q_HO543, Q_HO547, Q_HO551, Q_HO555⟩ hb_ hon hoff
          refine ⟨_, rfl, fun K hK => ?_⟩
          have e14 : a.tmps[14]? = some (.int .i64 (Go.bits .or .i64 t535 t536)) := by rw [ha]; exact putSel_on (e := (6, 14, .int .i64 (Go.bits .or .i64 t535 t536))) 4 rfl rfl (hon 6 (by kernel_rfl)) rfl
          replace ha := Aside0.mk ha
          have BK533 := Aside0.mk Q_BK533
          have HB := Aside0.mk Q_HB
          refine Kd.R_lit_step (Kd.int .i64) _ 3 ?hg (N := 15) ?hd (xs := ([Go.bits .or .i64 t535 t536, 0] : List Int)) (inner := [.int .i64 (Go.bits .or .i64 t535 t536), .int .i64 0]) (ok := fun _ => True) (okp := fun _ => True) ?hr ?hp (fun _ hk => hk) trivial (Below.refl _ _) (Nat.le_refl _) (by simp) ?_; (case hd => rfl); (case hg => rfl); (case hr => first | (go_simp; done) | (go_simp; rfl)); (case hp => exact (Reps.one (show Kd.M (Kd.int .i64) _ _ _ (Go.bits .or .i64 t535 t536) [.int .i64 (Go.bits .or .i64 t535 t536)] from rfl) (Reps.one (show Kd.M (Kd.int .i64) _ _ _ 0 [.int .i64 0] from rfl) (Reps.none _ _))))
          intro v538 w22 ho23 hb hg_ hnew_
          clear hg_ hnew_
          (first | rw [← Ny537.out] at ho23 | (simp only [Int.reduceToNat] at ho23; rw [← Ny537.out] at ho23))
          have n0_ := Aside0.mk (Kd.R_lower ho23 (below_size (by repeat (first | (with_reducible first | exact HB.out | apply below_alloc | apply pw_below_drewN | apply below_drew1 | refine below_set ?_ GE533.out) | exact HB.out))))
          have n1_ := Aside0.mk (blk_below (g := gb533) (o := .cells #[.bool a0_0, .bool a0_1, .int .i64 a0_2, .int .i64 a0_3, .int .i64 a0_4, .int .i64 a0_5] 72 (0, 0)) (by (with_reducible repeat (first | refine blk_drewN ?_ _ | refine blk_drew ?_ | refine blk_alloc ?_ _)); exact BK533.out) hb)
          have n2_ := Aside0.mk (below_step (by repeat (first | (with_reducible first | exact HB.out | apply below_alloc | apply pw_below_drewN | apply below_drew1 | refine below_set ?_ GE533.out) | exact HB.out)) hb)
          have z_HO543 := fun (h0_ : b 15 = true) => (show Kd.R (Kd.int .i64) 3 w22 w.heap.size (fun _ => True) v542 y541 from by first | exact (Kd.R_elder' (by (with_reducible repeat (first | apply Kd.R_alloc | apply Kd.R_drewN | apply Kd.R_drew)); exact (Q_HO543 h0_)) (Kd.R_base ho23) hb) | exact Kd.R_mono (Kd.R_elder' (by (with_reducible repeat (first | apply Kd.R_alloc | apply Kd.R_drewN | apply Kd.R_drew)); exact (Q_HO543 h0_)) (Kd.R_base ho23) hb) (fun _ h_ => by first | trivial | exact h_ | exact h_.1))
          have z_HO547 := fun (h0_ : b 20 = true) => (show Kd.R (Kd.int .i64) 3 w22 w.heap.size (fun _ => True) v546 y545 from by first | exact (Kd.R_elder' (by (with_reducible repeat (first | apply Kd.R_alloc | apply Kd.R_drewN | apply Kd.R_drew)); exact (Q_HO547 h0_)) (Kd.R_base ho23) hb) | exact Kd.R_mono (Kd.R_elder' (by (with_reducible repeat (first | apply Kd.R_alloc | apply Kd.R_drewN | apply Kd.R_drew)); exact (Q_HO547 h0_)) (Kd.R_base ho23) hb) (fun _ h_ => by first | trivial | exact h_ | exact h_.1))
          have z_HO551 := fun (h0_ : b 25 = true) => (show Kd.R (Kd.int .i64) 3 w22 w.heap.size (fun _ => True) v550 y549 from by first | exact (Kd.R_elder' (by (with_reducible repeat (first | apply Kd.R_alloc | apply Kd.R_drewN | apply Kd.R_drew)); exact (Q_HO551 h0_)) (Kd.R_base ho23) hb) | exact Kd.R_mono (Kd.R_elder' (by (with_reducible repeat (first | apply Kd.R_alloc | apply Kd.R_drewN | apply Kd.R_drew)); exact (Q_HO551 h0_)) (Kd.R_base ho23) hb) (fun _ h_ => by first | trivial | exact h_ | exact h_.1))
          have z_HO555 := fun (h0_ : b 30 = true) => (show Kd.R (Kd.int .i64) 3 w22 w.heap.size (fun _ => True) v554 y553 from by first | exact (Kd.R_elder' (by (with_reducible repeat (first | apply Kd.R_alloc | apply Kd.R_drewN | apply Kd.R_drew)); exact (Q_HO555 h0_)) (Kd.R_base ho23) hb) | exact Kd.R_mono (Kd.R_elder' (by (with_reducible repeat (first | apply Kd.R_alloc | apply Kd.R_drewN | apply Kd.R_drew)); exact (Q_HO555 h0_)) (Kd.R_base ho23) hb) (fun _ h_ => by first | trivial | exact h_ | exact h_.1))
          clear BK533
          clear HB
          have HO539 := n0_
          have BK533 := n1_
          have HB := n2_
          clear n0_ n1_ n2_
          clear hb ho23
          refine hK.out _ _ ⟨v538, v542, v546, v550, v554, (by rw [ha.out]; exact putSel_upk 5 hb_ rfl rfl rfl), (by (with_reducible repeat (first | refine blk_drewN ?_ _ | refine blk_drew ?_ | refine blk_alloc ?_ _)); exact BK533.out), (by repeat (first | (with_reducible first | exact HB.out | apply below_alloc | apply pw_below_drewN | apply below_drew1 | refine below_set ?_ GE533.out) | exact HB.out)), fun _ => (by (with_reducible repeat (first | apply Kd.R_alloc | apply Kd.R_drewN | apply Kd.R_drew)); exact HO539.out), z_HO543, z_HO547, z_HO551, z_HO555⟩
         refine steps_cons ?_ ?_
         ·rintro b a w' ⟨v538, v542, v546, v550, v554, ha, Q_BK533, Q_HB, Q_HO539, Q_HO543, Q_HO547, Q_HO551, Q_HO555⟩ hb_ hon hoff
          refine ⟨_, rfl, fun K hK => ?_⟩
          have e15 : a.tmps[15]? = some (v538) := by rw [ha]; exact putSel_on (e := (7, 15, v538)) 5 rfl rfl (hon 7 (by kernel_rfl)) rfl
          replace ha := Aside0.mk ha
          have BK533 := Aside0.mk Q_BK533
          have HB := Aside0.mk Q_HB
          have HO539 := Aside0.mk (Q_HO539 (hon 7 (by kernel_rfl)))
          obtain ⟨Ao24, co24, eo24⟩ := Kd.R_slice HO539.out
          (first | subst eo24 | (injection eo24 with f1_ f2_ f3_; have f4_ := f1_.symm; have f5_ := f3_.symm; clear f1_ f2_ f3_; subst f4_; subst f5_))
          refine goes_ Tryd.func95 (by kernel_rfl) rfl #[.int .i64 3, .slice Ao24 y537.length co24] (by rfl) rfl rfl (by first | (simp only [List.map_toArray, List.map_cons, List.map_nil, Act.eval, Array.getD_eq_getD_getElem?, Option.getD_some, e15]; done) | (simp only [List.map_toArray, List.map_cons, List.map_nil, Act.eval, Array.getD_eq_getD_getElem?, Option.getD_some, e15]; rfl)) ?_
          with_reducible refine (xid_field.calls k 3 _ _ y537 t540 _ ?side1 ?side2 A6.out).mono ?_
          (case side1 => repeat (first | exact (Kd.R_reads' HO539.out).2.2 | (with_reducible refine Kd.C_alloc ?_ _) | (with_reducible refine Kd.C_drewN ?_ _) | (with_reducible refine Kd.C_drew ?_)))
          (case side2 => exact (Kd.R_reads' HO539.out).2.1)
          rintro e w25 ⟨rfl, hb⟩
          refine ⟨_, rfl, ?_⟩
          have n0_ := Aside0.mk (Kd.R_below (by (with_reducible repeat (first | apply Kd.R_alloc | apply Kd.R_drewN | apply Kd.R_drew)); exact HO539.out) hb)
          have n1_ := Aside0.mk (blk_below (g := gb533) (o := .cells #[.bool a0_0, .bool a0_1, .int .i64 a0_2, .int .i64 a0_3, .int .i64 a0_4, .int .i64 a0_5] 72 (0, 0)) (by (with_reducible repeat (first | refine blk_drewN ?_ _ | refine blk_drew ?_ | refine blk_alloc ?_ _)); exact BK533.out) hb)
          have n2_ := Aside0.mk (below_step (by repeat (first | (with_reducible first | exact HB.out | apply below_alloc | apply pw_below_drewN | apply below_drew1 | refine below_set ?_ GE533.out) | exact HB.out)) hb)
          have z_HO543 := fun (h0_ : b 15 = true) => (show Kd.R (Kd.int .i64) 3 w25 w.heap.size (fun _ => True) v542 y541 from by first | exact (Kd.R_below (by (with_reducible repeat (first | apply Kd.R_alloc | apply Kd.R_drewN | apply Kd.R_drew)); exact (Q_HO543 h0_)) hb) | exact Kd.R_mono (Kd.R_below (by (with_reducible repeat (first | apply Kd.R_alloc | apply Kd.R_drewN | apply Kd.R_drew)); exact (Q_HO543 h0_)) hb) (fun _ h_ => by first | trivial | exact h_ | exact h_.1))
          have z_HO547 := fun (h0_ : b 20 = true) => (show Kd.R (Kd.int .i64) 3 w25 w.heap.size (fun _ => True) v546 y545 from by first | exact (Kd.R_below (by (with_reducible repeat (first | apply Kd.R_alloc | apply Kd.R_drewN | apply Kd.R_drew)); exact (Q_HO547 h0_)) hb) | exact Kd.R_mono (Kd.R_below (by (with_reducible repeat (first | apply Kd.R_alloc | apply Kd.R_drewN | apply Kd.R_drew)); exact (Q_HO547 h0_)) hb) (fun _ h_ => by first | trivial | exact h_ | exact h_.1))
          have z_HO551 := fun (h0_ : b 25 = true) => (show Kd.R (Kd.int .i64) 3 w25 w.heap.size (fun _ => True) v550 y549 from by first | exact (Kd.R_below (by (with_reducible repeat (first | apply Kd.R_alloc | apply Kd.R_drewN | apply Kd.R_drew)); exact (Q_HO551 h0_)) hb) | exact Kd.R_mono (Kd.R_below (by (with_reducible repeat (first | apply Kd.R_alloc | apply Kd.R_drewN | apply Kd.R_drew)); exact (Q_HO551 h0_)) hb) (fun _ h_ => by first | trivial | exact h_ | exact h_.1))
          have z_HO555 := fun (h0_ : b 30 = true) => (show Kd.R (Kd.int .i64) 3 w25 w.heap.size (fun _ => True) v554 y553 from by first | exact (Kd.R_below (by (with_reducible repeat (first | apply Kd.R_alloc | apply Kd.R_drewN | apply Kd.R_drew)); exact (Q_HO555 h0_)) hb) | exact Kd.R_mono (Kd.R_below (by (with_reducible repeat (first | apply Kd.R_alloc | apply Kd.R_drewN | apply Kd.R_drew)); exact (Q_HO555 h0_)) hb) (fun _ h_ => by first | trivial | exact h_ | exact h_.1))
          clear HO539
          clear BK533
          clear HB
          have HO539 := n0_
          have BK533 := n1_
          have HB := n2_
          clear n0_ n1_ n2_
          (try clear hb)
          (try clear hb2)
          (try clear hk)
          (try clear hi)
          refine hK.out _ _ ⟨.slice Ao24 y537.length co24, v542, v546, v550, v554, (by rw [ha.out]; exact putSel_upk 6 hb_ rfl rfl rfl), (by (with_reducible repeat (first | refine blk_drewN ?_ _ | refine blk_drew ?_ | refine blk_alloc ?_ _)); exact BK533.out), (by repeat (first | (with_reducible first | exact HB.out | apply below_alloc | apply pw_below_drewN | apply below_drew1 | refine below_set ?_ GE533.out) | exact HB.out)), fun _ => (by (with_reducible repeat (first | apply Kd.R_alloc | apply Kd.R_drewN | apply Kd.R_drew)); exact HO539.out), z_HO543, z_HO547, z_HO551, z_HO555⟩
         refine steps_cons ?_ ?_
         ·rintro b a w' ⟨v538, v542, v546, v550, v554, ha, Q_BK533, Q_HB, Q_HO539, Q_HO543, Q_HO547, Q_HO551, Q_HO555⟩ hb_ hon hoff
          refine ⟨_, rfl, fun K hK => ?_⟩
          have e17 : a.tmps[17]? = some (.pointer (some ⟨gb533, 2, none⟩)) := by rw [ha]; exact (putSel_off rfl).trans rfl
          replace ha := Aside0.mk ha
          have BK533 := Aside0.mk Q_BK533
          have HB := Aside0.mk Q_HB
          have hc0_ : w'.cell? ⟨gb533, 0, none⟩ = some (.bool a0_0) := (blk_cell BK533.out 0).trans rfl
          have hc1_ : w'.cell? ⟨gb533, 1, none⟩ = some (.bool a0_1) := (blk_cell BK533.out 1).trans rfl
          have hc2_ : w'.cell? ⟨gb533, 2, none⟩ = some (.int .i64 a0_2) := (blk_cell BK533.out 2).trans rfl
          have hc3_ : w'.cell? ⟨gb533, 3, none⟩ = some (.int .i64 a0_3) := (blk_cell BK533.out 3).trans rfl
          have hc4_ : w'.cell? ⟨gb533, 4, none⟩ = some (.int .i64 a0_4) := (blk_cell BK533.out 4).trans rfl
          have hc5_ : w'.cell? ⟨gb533, 5, none⟩ = some (.int .i64 a0_5) := (blk_cell BK533.out 5).trans rfl
          refine value_ (w1 := w') (v := .int .i64 a0_2) (by rfl) rfl ?_ ?_
          ·go_simp
           (try simp only [i64_w])
           try rfl
           all_goals (try ((try simp only [ByteArray.size_append] at *); omega))
          refine hK.out _ _ ⟨v538, v542, v546, v550, v554, (by rw [ha.out]; exact putSel_upk 7 hb_ rfl rfl rfl), Q_BK533, Q_HB, Q_HO539, fun h0_ => absurd ((hoff 15 (by kernel_rfl)).symm.trans h0_) (by decide), Q_HO547, Q_HO551, Q_HO555⟩
         refine steps_cons ?_ ?_
         ·rintro b a w' ⟨v538, v542, v546, v550, v554, ha, Q_BK533, Q_HB, Q_HO539, Q_HO543, Q_HO547, Q_HO551, Q_HO555⟩ hb_ hon hoff
          refine ⟨_, rfl, fun K hK => ?_⟩
          have e18 : a.tmps[18]? = some (.int .i64 a0_2) := by rw [ha]; exact putSel_on (e := (10, 18, .int .i64 a0_2)) 7 rfl rfl (hon 10 (by kernel_rfl)) rfl
          replace ha := Aside0.mk ha
          have BK533 := Aside0.mk Q_BK533
          have HB := Aside0.mk Q_HB
          refine value_ (w1 := w') (v := .int .i64 (a0_2 / 256)) (by rfl) rfl ?_ ?_
          ·go_simp
           (try simp only [i64_w])
           try rfl
           all_goals (try ((try simp only [ByteArray.size_append] at *); omega))
          refine hK.out _ _ ⟨v538, v542, v546, v550, v554, (by rw [ha.out]; exact putSel_upk 8 hb_ rfl rfl rfl), Q_BK533, Q_HB, Q_HO539, fun h0_ => absurd ((hoff 15 (by kernel_rfl)).symm.trans h0_) (by decide), Q_HO547, Q_HO551, Q_HO555⟩
         refine steps_cons ?_ ?_
         ·rintro b a w' ⟨v538, v542, v546, v550, v554, ha, Q_BK533, Q_HB, Q_HO539, Q_HO543, Q_HO547, Q_HO551, Q_HO555⟩ hb_ hon hoff
          refine ⟨_, rfl, fun K hK => ?_⟩
          have e20 : a.tmps[20]? = some (.pointer (some ⟨gb533, 2, none⟩)) := by rw [ha]; exact (putSel_off rfl).trans rfl
          replace ha := Aside0.mk ha
          have BK533 := Aside0.mk Q_BK533
          have HB := Aside0.mk Q_HB
          have hc0_ : w'.cell? ⟨gb533, 0, none⟩ = some (.bool a0_0) := (blk_cell BK533.out 0).trans rfl
          have hc1_ : w'.cell? ⟨gb533, 1, none⟩ = some (.bool a0_1) := (blk_cell BK533.out 1).trans rfl
          have hc2_ : w'.cell? ⟨gb533, 2, none⟩ = some (.int .i64 a0_2) := (blk_cell BK533.out 2).trans rfl
          have hc3_ : w'.cell? ⟨gb533, 3, none⟩ = some (.int .i64 a0_3) := (blk_cell BK533.out 3).trans rfl
          have hc4_ : w'.cell? ⟨gb533, 4, none⟩ = some (.int .i64 a0_4) := (blk_cell BK533.out 4).trans rfl
          have hc5_ : w'.cell? ⟨gb533, 5, none⟩ = some (.int .i64 a0_5) := (blk_cell BK533.out 5).trans rfl
          refine value_ (w1 := w') (v := .int .i64 a0_2) (by rfl) rfl ?_ ?_
          ·go_simp
           (try simp only [i64_w])
           try rfl
           all_goals (try ((try simp only [ByteArray.size_append] at *); omega))
          refine hK.out _ _ ⟨v538, v542, v546, v550, v554, (by rw [ha.out]; exact putSel_upk 9 hb_ rfl rfl rfl), Q_BK533, Q_HB, Q_HO539, fun h0_ => absurd ((hoff 15 (by kernel_rfl)).symm.trans h0_) (by decide), Q_HO547, Q_HO551, Q_HO555⟩
         refine steps_cons ?_ ?_
         ·rintro b a w' ⟨v538, v542, v546, v550, v554, ha, Q_BK533, Q_HB, Q_HO539, Q_HO543, Q_HO547, Q_HO551, Q_HO555⟩ hb_ hon hoff
          refine ⟨_, rfl, fun K hK => ?_⟩
          have e21 : a.tmps[21]? = some (.int .i64 a0_2) := by rw [ha]; exact putSel_on (e := (13, 21, .int .i64 a0_2)) 9 rfl rfl (hon 13 (by kernel_rfl)) rfl
          replace ha := Aside0.mk ha
          have BK533 := Aside0.mk Q_BK533
          have HB := Aside0.mk Q_HB
          refine value_ (w1 := w') (v := .int .i64 (Go.bits .and .i64 a0_2 255)) (by rfl) rfl ?_ ?_
          ·go_simp
           (try simp only [i64_w])
           try rfl
           all_goals (try ((try simp only [ByteArray.size_append] at *); omega))
          refine hK.out _ _ ⟨v538, v542, v546, v550, v554, (by rw [ha.out]; exact putSel_upk 10 hb_ rfl rfl rfl), Q_BK533, Q_HB, Q_HO539, fun h0_ => absurd ((hoff 15 (by kernel_rfl)).symm.trans h0_) (by decide), Q_HO547, Q_HO551, Q_HO555⟩
         refine steps_cons ?_ ?_
         ·rintro b a w' ⟨v538, v542, v546, v550, v554, ha, Q_BK533, Q_HB, Q_HO539, Q_HO543, Q_HO547, Q_HO551, Q_HO555⟩ hb_ hon hoff
          refine ⟨_, rfl, fun K hK => ?_⟩
          have e19 : a.tmps[19]? = some (.int .i64 (a0_2 / 256)) := by rw [ha]; exact putSel_on (e := (11, 19, .int .i64 (a0_2 / 256))) 8 rfl rfl (hon 11 (by kernel_rfl)) rfl
          have e22 : a.tmps[22]? = some (.int .i64 (Go.bits .and .i64 a0_2 255)) := by rw [ha]; exact putSel_on (e := (14, 22, .int .i64 (Go.bits .and .i64 a0_2 255))) 10 rfl rfl (hon 14 (by kernel_rfl)) rfl
          replace ha := Aside0.mk ha
          have BK533 := Aside0.mk Q_BK533
          have HB := Aside0.mk Q_HB
          refine Kd.R_lit_step (Kd.int .i64) _ 3 ?hg (N := 23) ?hd (xs := ([a0_2 / 256, Go.bits .and .i64 a0_2 255] : List Int)) (inner := [.int .i64 (a0_2 / 256), .int .i64 (Go.bits .and .i64 a0_2 255)]) (ok := fun _ => True) (okp := fun _ => True) ?hr ?hp (fun _ hk => hk) trivial (Below.refl _ _) (Nat.le_refl _) (by simp) ?_; (case hd => rfl); (case hg => rfl); (case hr => first | (go_simp; done) | (go_simp; rfl)); (case hp => exact (Reps.one (show Kd.M (Kd.int .i64) _ _ _ (a0_2 / 256) [.int .i64 (a0_2 / 256)] from rfl) (Reps.one (show Kd.M (Kd.int .i64) _ _ _ (Go.bits .and .i64 a0_2 255) [.int .i64 (Go.bits .and .i64 a0_2 255)] from rfl) (Reps.none _ _))))
          intro v542 w21 ho22 hb hg_ hnew_
          clear hg_ hnew_
          (first | rw [← Ny541.out] at ho22 | (simp only [Int.reduceToNat] at ho22; rw [← Ny541.out] at ho22))
          have n0_ := Aside0.mk (Kd.R_lower ho22 (below_size (by repeat (first | (with_reducible first | exact HB.out | apply below_alloc | apply pw_below_drewN | apply below_drew1 | refine below_set ?_ GE533.out) | exact HB.out))))
          have n1_ := Aside0.mk (blk_below (g := gb533) (o := .cells #[.bool a0_0, .bool a0_1, .int .i64 a0_2, .int .i64 a0_3, .int .i64 a0_4, .int .i64 a0_5] 72 (0, 0)) (by (with_reducible repeat (first | refine blk_drewN ?_ _ | refine blk_drew ?_ | refine blk_alloc ?_ _)); exact BK533.out) hb)
          have n2_ := Aside0.mk (below_step (by repeat (first | (with_reducible first | exact HB.out | apply below_alloc | apply pw_below_drewN | apply below_drew1 | refine below_set ?_ GE533.out) | exact HB.out)) hb)
          have z_HO539 := fun (h0_ : b 7 = true) => (show Kd.R (Kd.int .i64) 3 w21 w.heap.size (fun _ => True) v538 y537 from by first | exact (Kd.R_elder' (by (with_reducible repeat (first | apply Kd.R_alloc | apply Kd.R_drewN | apply Kd.R_drew)); exact (Q_HO539 h0_)) (Kd.R_base ho22) hb) | exact Kd.R_mono (Kd.R_elder' (by (with_reducible repeat (first | apply Kd.R_alloc | apply Kd.R_drewN | apply Kd.R_drew)); exact (Q_HO539 h0_)) (Kd.R_base ho22) hb) (fun _ h_ => by first | trivial | exact h_ | exact h_.1))
          have z_HO547 := fun (h0_ : b 20 = true) => (show Kd.R (Kd.int .i64) 3 w21 w.heap.size (fun _ => True) v546 y545 from by first | exact (Kd.R_elder' (by (with_reducible repeat (first | apply Kd.R_alloc | apply Kd.R_drewN | apply Kd.R_drew)); exact (Q_HO547 h0_)) (Kd.R_base ho22) hb) | exact Kd.R_mono (Kd.R_elder' (by (with_reducible repeat (first | apply Kd.R_alloc | apply Kd.R_drewN | apply Kd.R_drew)); exact (Q_HO547 h0_)) (Kd.R_base ho22) hb) (fun _ h_ => by first | trivial | exact h_ | exact h_.1))
          have z_HO551 := fun (h0_ : b 25 = true) => (show Kd.R (Kd.int .i64) 3 w21 w.heap.size (fun _ => True) v550 y549 from by first | exact (Kd.R_elder' (by (with_reducible repeat (first | apply Kd.R_alloc | apply Kd.R_drewN | apply Kd.R_drew)); exact (Q_HO551 h0_)) (Kd.R_base ho22) hb) | exact Kd.R_mono (Kd.R_elder' (by (with_reducible repeat (first | apply Kd.R_alloc | apply Kd.R_drewN | apply Kd.R_drew)); exact (Q_HO551 h0_)) (Kd.R_base ho22) hb) (fun _ h_ => by first | trivial | exact h_ | exact h_.1))
          have z_HO555 := fun (h0_ : b 30 = true) => (show Kd.R (Kd.int .i64) 3 w21 w.heap.size (fun _ => True) v554 y553 from by first | exact (Kd.R_elder' (by (with_reducible repeat (first | apply Kd.R_alloc | apply Kd.R_drewN | apply Kd.R_drew)); exact (Q_HO555 h0_)) (Kd.R_base ho22) hb) | exact Kd.R_mono (Kd.R_elder' (by (with_reducible repeat (first | apply Kd.R_alloc | apply Kd.R_drewN | apply Kd.R_drew)); exact (Q_HO555 h0_)) (Kd.R_base ho22) hb) (fun _ h_ => by first | trivial | exact h_ | exact h_.1))
          clear BK533
          clear HB
          have HO543 := n0_
          have BK533 := n1_
          have HB := n2_
          clear n0_ n1_ n2_
          clear hb ho22
          refine hK.out _ _ ⟨v538, v542, v546, v550, v554, (by rw [ha.out]; exact putSel_upk 11 hb_ rfl rfl rfl), (by (with_reducible repeat (first | refine blk_drewN ?_ _ | refine blk_drew ?_ | refine blk_alloc ?_ _)); exact BK533.out), (by repeat (first | (with_reducible first | exact HB.out | apply below_alloc | apply pw_below_drewN | apply below_drew1 | refine below_set ?_ GE533.out) | exact HB.out)), z_HO539, fun _ => (by (with_reducible repeat (first | apply Kd.R_alloc | apply Kd.R_drewN | apply Kd.R_drew)); exact HO543.out), z_HO547, z_HO551, z_HO555⟩
         refine steps_cons ?_ ?_
         ·rintro b a w' ⟨v538, v542, v546, v550, v554, ha, Q_BK533, Q_HB, Q_HO539, Q_HO543, Q_HO547, Q_HO551, Q_HO555⟩ hb_ hon hoff
          refine ⟨_, rfl, fun K hK => ?_⟩
          have e23 : a.tmps[23]? = some (v542) := by rw [ha]; exact putSel_on (e := (15, 23, v542)) 11 rfl rfl (hon 15 (by kernel_rfl)) rfl
          replace ha := Aside0.mk ha
          have BK533 := Aside0.mk Q_BK533
          have HB := Aside0.mk Q_HB
          have HO539 := Aside0.mk (Q_HO539 (hon 7 (by kernel_rfl)))
          have HO543 := Aside0.mk (Q_HO543 (hon 15 (by kernel_rfl)))
          obtain ⟨Ao28, co28, eo28⟩ := Kd.R_slice HO543.out
          (first | subst eo28 | (injection eo28 with f1_ f2_ f3_; have f4_ := f1_.symm; have f5_ := f3_.symm; clear f1_ f2_ f3_; subst f4_; subst f5_))
          refine goes_ Tryd.func95 (by kernel_rfl) rfl #[.int .i64 6, .slice Ao28 y541.length co28] (by rfl) rfl rfl (by first | (simp only [List.map_toArray, List.map_cons, List.map_nil, Act.eval, Array.getD_eq_getD_getElem?, Option.getD_some, e23]; done) | (simp only [List.map_toArray, List.map_cons, List.map_nil, Act.eval, Array.getD_eq_getD_getElem?, Option.getD_some, e23]; rfl)) ?_
          with_reducible refine (xid_field.calls k 6 _ _ y541 t544 _ ?side1 ?side2 A7.out).mono ?_
          (case side1 => repeat (first | exact (Kd.R_reads' HO543.out).2.2 | (with_reducible refine Kd.C_alloc ?_ _) | (with_reducible refine Kd.C_drewN ?_ _) | (with_reducible refine Kd.C_drew ?_)))
          (case side2 => exact (Kd.R_reads' HO543.out).2.1)
          rintro e w29 ⟨rfl, hb⟩
          refine ⟨_, rfl, ?_⟩
          have n0_ := Aside0.mk (Kd.R_below (by (with_reducible repeat (first | apply Kd.R_alloc | apply Kd.R_drewN | apply Kd.R_drew)); exact HO539.out) hb)
          have n1_ := Aside0.mk (Kd.R_below (by (with_reducible repeat (first | apply Kd.R_alloc | apply Kd.R_drewN | apply Kd.R_drew)); exact HO543.out) hb)
          have n2_ := Aside0.mk (blk_below (g := gb533) (o := .cells #[.bool a0_0, .bool a0_1, .int .i64 a0_2, .int .i64 a0_3, .int .i64 a0_4, .int .i64 a0_5] 72 (0, 0)) (by (with_reducible repeat (first | refine blk_drewN ?_ _ | refine blk_drew ?_ | refine blk_alloc ?_ _)); exact BK533.out) hb)
          have n3_ := Aside0.mk (below_step (by repeat (first | (with_reducible first | exact HB.out | apply below_alloc | apply pw_below_drewN | apply below_drew1 | refine below_set ?_ GE533.out) | exact HB.out)) hb)
          have z_HO547 := fun (h0_ : b 20 = true) => (show Kd.R (Kd.int .i64) 3 w29 w.heap.size (fun _ => True) v546 y545 from by first | exact (Kd.R_below (by (with_reducible repeat (first | apply Kd.R_alloc | apply Kd.R_drewN | apply Kd.R_drew)); exact (Q_HO547 h0_)) hb) | exact Kd.R_mono (Kd.R_below (by (with_reducible repeat (first | apply Kd.R_alloc | apply Kd.R_drewN | apply Kd.R_drew)); exact (Q_HO547 h0_)) hb) (fun _ h_ => by first | trivial | exact h_ | exact h_.1))
          have z_HO551 := fun (h0_ : b 25 = true) => (show Kd.R (Kd.int .i64) 3 w29 w.heap.size (fun _ => True) v550 y549 from by first | exact (Kd.R_below (by (with_reducible repeat (first | apply Kd.R_alloc | apply Kd.R_drewN | apply Kd.R_drew)); exact (Q_HO551 h0_)) hb) | exact Kd.R_mono (Kd.R_below (by (with_reducible repeat (first | apply Kd.R_alloc | apply Kd.R_drewN | apply Kd.R_drew)); exact (Q_HO551 h0_)) hb) (fun _ h_ => by first | trivial | exact h_ | exact h_.1))
          have z_HO555 := fun (h0_ : b 30 = true) => (show Kd.R (Kd.int .i64) 3 w29 w.heap.size (fun _ => True) v554 y553 from by first | exact (Kd.R_below (by (with_reducible repeat (first | apply Kd.R_alloc | apply Kd.R_drewN | apply Kd.R_drew)); exact (Q_HO555 h0_)) hb) | exact Kd.R_mono (Kd.R_below (by (with_reducible repeat (first | apply Kd.R_alloc | apply Kd.R_drewN | apply Kd.R_drew)); exact (Q_HO555 h0_)) hb) (fun _ h_ => by first | trivial | exact h_ | exact h_.1))
          clear HO539
          clear HO543
          clear BK533
          clear HB
          have HO539 := n0_
          have HO543 := n1_
          have BK533 := n2_
          have HB := n3_
          clear n0_ n1_ n2_ n3_
          (try clear hb)
          (try clear hb2)
          (try clear hk)
          (try clear hi)
          refine hK.out _ _ ⟨v538, .slice Ao28 y541.length co28, v546, v550, v554, (by rw [ha.out]; exact putSel_upk 12 hb_ rfl rfl rfl), (by (with_reducible repeat (first | refine blk_drewN ?_ _ | refine blk_drew ?_ | refine blk_alloc ?_ _)); exact BK533.out), (by repeat (first | (with_reducible first | exact HB.out | apply below_alloc | apply pw_below_drewN | apply below_drew1 | refine below_set ?_ GE533.out) | exact HB.out)), fun _ => (by (with_reducible repeat (first | apply Kd.R_alloc | apply Kd.R_drewN | apply Kd.R_drew)); exact HO539.out), fun _ => (by (with_reducible repeat (first | apply Kd.R_alloc | apply Kd.R_drewN | apply Kd.R_drew)); exact HO543.out), z_HO547, z_HO551, z_HO555⟩
         refine steps_cons ?_ ?_
         ·rintro b a w' ⟨v538, v542, v546, v550, v554, ha, Q_BK533, Q_HB, Q_HO539, Q_HO543, Q_HO547, Q_HO551, Q_HO555⟩ hb_ hon hoff
          refine ⟨_, rfl, fun K hK => ?_⟩
          have e16 : a.tmps[16]? = some (.string t540) := by rw [ha]; exact putSel_on (e := (8, 16, .string t540)) 6 rfl rfl (hon 8 (by kernel_rfl)) rfl
          have e24 : a.tmps[24]? = some (.string t544) := by rw [ha]; exact putSel_on (e := (16, 24, .string t544)) 12 rfl rfl (hon 16 (by kernel_rfl)) rfl
          replace ha := Aside0.mk ha
          have BK533 := Aside0.mk Q_BK533
          have HB := Aside0.mk Q_HB
          have HO539 := Aside0.mk (Q_HO539 (hon 7 (by kernel_rfl)))
          have HO543 := Aside0.mk (Q_HO543 (hon 15 (by kernel_rfl)))
          refine value_ (w1 := w') (v := .string (t540 ++ t544)) (by rfl) rfl ?_ ?_
          ·go_simp
           (try simp only [i64_w])
           try rfl
           all_goals (try ((try simp only [ByteArray.size_append] at *); omega))
          refine hK.out _ _ ⟨v538, v542, v546, v550, v554, (by rw [ha.out]; exact putSel_upk 13 hb_ rfl rfl rfl), Q_BK533, Q_HB, Q_HO539, Q_HO543, Q_HO547, Q_HO551, Q_HO555⟩
         refine steps_cons ?_ ?_
         ·rintro b a w' ⟨v538, v542, v546, v550, v554, ha, Q_BK533, Q_HB, Q_HO539, Q_HO543, Q_HO547, Q_HO551, Q_HO555⟩ hb_ hon hoff
          refine ⟨_, rfl, fun K hK => ?_⟩
          have e26 : a.tmps[26]? = some (.pointer (some ⟨gb533, 3, none⟩)) := by rw [ha]; exact (putSel_off rfl).trans rfl
          replace ha := Aside0.mk ha
          have BK533 := Aside0.mk Q_BK533
          have HB := Aside0.mk Q_HB
          have hc0_ : w'.cell? ⟨gb533, 0, none⟩ = some (.bool a0_0) := (blk_cell BK533.out 0).trans rfl
          have hc1_ : w'.cell? ⟨gb533, 1, none⟩ = some (.bool a0_1) := (blk_cell BK533.out 1).trans rfl
          have hc2_ : w'.cell? ⟨gb533, 2, none⟩ = some (.int .i64 a0_2) := (blk_cell BK533.out 2).trans rfl
          have hc3_ : w'.cell? ⟨gb533, 3, none⟩ = some (.int .i64 a0_3) := (blk_cell BK533.out 3).trans rfl
          have hc4_ : w'.cell? ⟨gb533, 4, none⟩ = some (.int .i64 a0_4) := (blk_cell BK533.out 4).trans rfl
          have hc5_ : w'.cell? ⟨gb533, 5, none⟩ = some (.int .i64 a0_5) := (blk_cell BK533.out 5).trans rfl
          refine value_ (w1 := w') (v := .int .i64 a0_3) (by rfl) rfl ?_ ?_
          ·go_simp
           (try simp only [i64_w])
           try rfl
           all_goals (try ((try simp only [ByteArray.size_append] at *); omega))
          refine hK.out _ _ ⟨v538, v542, v546, v550, v554, (by rw [ha.out]; exact putSel_upk 14 hb_ rfl rfl rfl), Q_BK533, Q_HB, Q_HO539, Q_HO543, fun h0_ => absurd ((hoff 20 (by kernel_rfl)).symm.trans h0_) (by decide), Q_HO551, Q_HO555⟩
         refine steps_cons ?_ ?_
         ·rintro b a w' ⟨v538, v542, v546, v550, v554, ha, Q_BK533, Q_HB, Q_HO539, Q_HO543, Q_HO547, Q_HO551, Q_HO555⟩ hb_ hon hoff
          refine ⟨_, rfl, fun K hK => ?_⟩
          have e27 : a.tmps[27]? = some (.int .i64 a0_3) := by rw [ha]; exact putSel_on (e := (19, 27, .int .i64 a0_3)) 14 rfl rfl (hon 19 (by kernel_rfl)) rfl
          replace ha := Aside0.mk ha
          have BK533 := Aside0.mk Q_BK533
          have HB := Aside0.mk Q_HB
          refine Kd.R_lit_step (Kd.int .i64) _ 3 ?hg (N := 28) ?hd (xs := ([a0_3] : List Int)) (inner := [.int .i64 a0_3]) (ok := fun _ => True) (okp := fun _ => True) ?hr ?hp (fun _ hk => hk) trivial (Below.refl _ _) (Nat.le_refl _) (by simp) ?_; (case hd => rfl); (case hg => rfl); (case hr => first | (go_simp; done) | (go_simp; rfl)); (case hp => exact (Reps.one (show Kd.M (Kd.int .i64) _ _ _ a0_3 [.int .i64 a0_3] from rfl) (Reps.none _ _)))
          intro v546 w21 ho22 hb hg_ hnew_
          clear hg_ hnew_
          (first | rw [← Ny545.out] at ho22 | (simp only [Int.reduceToNat] at ho22; rw [← Ny545.out] at ho22))
          have n0_ := Aside0.mk (Kd.R_lower ho22 (below_size (by repeat (first | (with_reducible first | exact HB.out | apply below_alloc | apply pw_below_drewN | apply below_drew1 | refine below_set ?_ GE533.out) | exact HB.out))))
          have n1_ := Aside0.mk (blk_below (g := gb533) (o := .cells #[.bool a0_0, .bool a0_1, .int .i64 a0_2, .int .i64 a0_3, .int .i64 a0_4, .int .i64 a0_5] 72 (0, 0)) (by (with_reducible repeat (first | refine blk_drewN ?_ _ | refine blk_drew ?_ | refine blk_alloc ?_ _)); exact BK533.out) hb)
          have n2_ := Aside0.mk (below_step (by repeat (first | (with_reducible first | exact HB.out | apply below_alloc | apply pw_below_drewN | apply below_drew1 | refine below_set ?_ GE533.out) | exact HB.out)) hb)
          have z_HO539 := fun (h0_ : b 7 = true) => (show Kd.R (Kd.int .i64) 3 w21 w.heap.size (fun _ => True) v538 y537 from by first | exact (Kd.R_elder' (by (with_reducible repeat (first | apply Kd.R_alloc | apply Kd.R_drewN | apply Kd.R_drew)); exact (Q_HO539 h0_)) (Kd.R_base ho22) hb) | exact Kd.R_mono (Kd.R_elder' (by (with_reducible repeat (first | apply Kd.R_alloc | apply Kd.R_drewN | apply Kd.R_drew)); exact (Q_HO539 h0_)) (Kd.R_base ho22) hb) (fun _ h_ => by first | trivial | exact h_ | exact h_.1))
          have z_HO543 := fun (h0_ : b 15 = true) => (show Kd.R (Kd.int .i64) 3 w21 w.heap.size (fun _ => True) v542 y541 from by first | exact (Kd.R_elder' (by (with_reducible repeat (first | apply Kd.R_alloc | apply Kd.R_drewN | apply Kd.R_drew)); exact (Q_HO543 h0_)) (Kd.R_base ho22) hb) | exact Kd.R_mono (Kd.R_elder' (by (with_reducible repeat (first | apply Kd.R_alloc | apply Kd.R_drewN | apply Kd.R_drew)); exact (Q_HO543 h0_)) (Kd.R_base ho22) hb) (fun _ h_ => by first | trivial | exact h_ | exact h_.1))
          have z_HO551 := fun (h0_ : b 25 = true) => (show Kd.R (Kd.int .i64) 3 w21 w.heap.size (fun _ => True) v550 y549 from by first | exact (Kd.R_elder' (by (with_reducible repeat (first | apply Kd.R_alloc | apply Kd.R_drewN | apply Kd.R_drew)); exact (Q_HO551 h0_)) (Kd.R_base ho22) hb) | exact Kd.R_mono (Kd.R_elder' (by (with_reducible repeat (first | apply Kd.R_alloc | apply Kd.R_drewN | apply Kd.R_drew)); exact (Q_HO551 h0_)) (Kd.R_base ho22) hb) (fun _ h_ => by first | trivial | exact h_ | exact h_.1))
          have z_HO555 := fun (h0_ : b 30 = true) => (show Kd.R (Kd.int .i64) 3 w21 w.heap.size (fun _ => True) v554 y553 from by first | exact (Kd.R_elder' (by (with_reducible repeat (first | apply Kd.R_alloc | apply Kd.R_drewN | apply Kd.R_drew)); exact (Q_HO555 h0_)) (Kd.R_base ho22) hb) | exact Kd.R_mono (Kd.R_elder' (by (with_reducible repeat (first | apply Kd.R_alloc | apply Kd.R_drewN | apply Kd.R_drew)); exact (Q_HO555 h0_)) (Kd.R_base ho22) hb) (fun _ h_ => by first | trivial | exact h_ | exact h_.1))
          clear BK533
          clear HB
          have HO547 := n0_
          have BK533 := n1_
          have HB := n2_
          clear n0_ n1_ n2_
          clear hb ho22
          refine hK.out _ _ ⟨v538, v542, v546, v550, v554, (by rw [ha.out]; exact putSel_upk 15 hb_ rfl rfl rfl), (by (with_reducible repeat (first | refine blk_drewN ?_ _ | refine blk_drew ?_ | refine blk_alloc ?_ _)); exact BK533.out), (by repeat (first | (with_reducible first | exact HB.out | apply below_alloc | apply pw_below_drewN | apply below_drew1 | refine below_set ?_ GE533.out) | exact HB.out)), z_HO539, z_HO543, fun _ => (by (with_reducible repeat (first | apply Kd.R_alloc | apply Kd.R_drewN | apply Kd.R_drew)); exact HO547.out), z_HO551, z_HO555⟩
         refine steps_cons ?_ ?_
         ·rintro b a w' ⟨v538, v542, v546, v550, v554, ha, Q_BK533, Q_HB, Q_HO539, Q_HO543, Q_HO547, Q_HO551, Q_HO555⟩ hb_ hon hoff
          refine ⟨_, rfl, fun K hK => ?_⟩
          have e28 : a.tmps[28]? = some (v546) := by rw [ha]; exact putSel_on (e := (20, 28, v546)) 15 rfl rfl (hon 20 (by kernel_rfl)) rfl
          replace ha := Aside0.mk ha
          have BK533 := Aside0.mk Q_BK533
          have HB := Aside0.mk Q_HB
          have HO539 := Aside0.mk (Q_HO539 (hon 7 (by kernel_rfl)))
          have HO543 := Aside0.mk (Q_HO543 (hon 15 (by kernel_rfl)))
          have HO547 := Aside0.mk (Q_HO547 (hon 20 (by kernel_rfl)))
          obtain ⟨Ao32, co32, eo32⟩ := Kd.R_slice HO547.out
          (first | subst eo32 | (injection eo32 with f1_ f2_ f3_; have f4_ := f1_.symm; have f5_ := f3_.symm; clear f1_ f2_ f3_; subst f4_; subst f5_))
          refine goes_ Tryd.func95 (by kernel_rfl) rfl #[.int .i64 8, .slice Ao32 y545.length co32] (by rfl) rfl rfl (by first | (simp only [List.map_toArray, List.map_cons, List.map_nil, Act.eval, Array.getD_eq_getD_getElem?, Option.getD_some, e28]; done) | (simp only [List.map_toArray, List.map_cons, List.map_nil, Act.eval, Array.getD_eq_getD_getElem?, Option.getD_some, e28]; rfl)) ?_
          with_reducible refine (xid_field.calls k 8 _ _ y545 t548 _ ?side1 ?side2 A9.out).mono ?_
          (case side1 => repeat (first | exact (Kd.R_reads' HO547.out).2.2 | (with_reducible refine Kd.C_alloc ?_ _) | (with_reducible refine Kd.C_drewN ?_ _) | (with_reducible refine Kd.C_drew ?_)))
          (case side2 => exact (Kd.R_reads' HO547.out).2.1)
          rintro e w33 ⟨rfl, hb⟩
          refine ⟨_, rfl, ?_⟩
          have n0_ := Aside0.mk (Kd.R_below (by (with_reducible repeat (first | apply Kd.R_alloc | apply Kd.R_drewN | apply Kd.R_drew)); exact HO539.out) hb)
          have n1_ := Aside0.mk (Kd.R_below (by (with_reducible repeat (first | apply Kd.R_alloc | apply Kd.R_drewN | apply Kd.R_drew)); exact HO543.out) hb)
          have n2_ := Aside0.mk (Kd.R_below (by (with_reducible repeat (first | apply Kd.R_alloc | apply Kd.R_drewN | apply Kd.R_drew)); exact HO547.out) hb)
          have n3_ := Aside0.mk (blk_below (g := gb533) (o := .cells #[.bool a0_0, .bool a0_1, .int .i64 a0_2, .int .i64 a0_3, .int .i64 a0_4, .int .i64 a0_5] 72 (0, 0)) (by (with_reducible repeat (first | refine blk_drewN ?_ _ | refine blk_drew ?_ | refine blk_alloc ?_ _)); exact BK533.out) hb)
          have n4_ := Aside0.mk (below_step (by repeat (first | (with_reducible first | exact HB.out | apply below_alloc | apply pw_below_drewN | apply below_drew1 | refine below_set ?_ GE533.out) | exact HB.out)) hb)
          have z_HO551 := fun (h0_ : b 25 = true) => (show Kd.R (Kd.int .i64) 3 w33 w.heap.size (fun _ => True) v550 y549 from by first | exact (Kd.R_below (by (with_reducible repeat (first | apply Kd.R_alloc | apply Kd.R_drewN | apply Kd.R_drew)); exact (Q_HO551 h0_)) hb) | exact Kd.R_mono (Kd.R_below (by (with_reducible repeat (first | apply Kd.R_alloc | apply Kd.R_drewN | apply Kd.R_drew)); exact (Q_HO551 h0_)) hb) (fun _ h_ => by first | trivial | exact h_ | exact h_.1))
          have z_HO555 := fun (h0_ : b 30 = true) => (show Kd.R (Kd.int .i64) 3 w33 w.heap.size (fun _ => True) v554 y553 from by first | exact (Kd.R_below (by (with_reducible repeat (first | apply Kd.R_alloc | apply Kd.R_drewN | apply Kd.R_drew)); exact (Q_HO555 h0_)) hb) | exact Kd.R_mono (Kd.R_below (by (with_reducible repeat (first | apply Kd.R_alloc | apply Kd.R_drewN | apply Kd.R_drew)); exact (Q_HO555 h0_)) hb) (fun _ h_ => by first | trivial | exact h_ | exact h_.1))
          clear HO539
          clear HO543
          clear HO547
          clear BK533
          clear HB
          have HO539 := n0_
          have HO543 := n1_
          have HO547 := n2_
          have BK533 := n3_
          have HB := n4_
          clear n0_ n1_ n2_ n3_ n4_
          (try clear hb)
          (try clear hb2)
          (try clear hk)
          (try clear hi)
          refine hK.out _ _ ⟨v538, v542, .slice Ao32 y545.length co32, v550, v554, (by rw [ha.out]; exact putSel_upk 16 hb_ rfl rfl rfl), (by (with_reducible repeat (first | refine blk_drewN ?_ _ | refine blk_drew ?_ | refine blk_alloc ?_ _)); exact BK533.out), (by repeat (first | (with_reducible first | exact HB.out | apply below_alloc | apply pw_below_drewN | apply below_drew1 | refine below_set ?_ GE533.out) | exact HB.out)), fun _ => (by (with_reducible repeat (first | apply Kd.R_alloc | apply Kd.R_drewN | apply Kd.R_drew)); exact HO539.out), fun _ => (by (with_reducible repeat (first | apply Kd.R_alloc | apply Kd.R_drewN | apply Kd.R_drew)); exact HO543.out), fun _ => (by (with_reducible repeat (first | apply Kd.R_alloc | apply Kd.R_drewN | apply Kd.R_drew)); exact HO547.out), z_HO551, z_HO555⟩
         refine steps_cons ?_ ?_
         ·rintro b a w' ⟨v538, v542, v546, v550, v554, ha, Q_BK533, Q_HB, Q_HO539, Q_HO543, Q_HO547, Q_HO551, Q_HO555⟩ hb_ hon hoff
          refine ⟨_, rfl, fun K hK => ?_⟩
          have e25 : a.tmps[25]? = some (.string (t540 ++ t544)) := by rw [ha]; exact putSel_on (e := (17, 25, .string (t540 ++ t544))) 13 rfl rfl (hon 17 (by kernel_rfl)) rfl
          have e29 : a.tmps[29]? = some (.string t548) := by rw [ha]; exact putSel_on (e := (21, 29, .string t548)) 16 rfl rfl (hon 21 (by kernel_rfl)) rfl
          replace ha := Aside0.mk ha
          have BK533 := Aside0.mk Q_BK533
          have HB := Aside0.mk Q_HB
          have HO539 := Aside0.mk (Q_HO539 (hon 7 (by kernel_rfl)))
          have HO543 := Aside0.mk (Q_HO543 (hon 15 (by kernel_rfl)))
          have HO547 := Aside0.mk (Q_HO547 (hon 20 (by kernel_rfl)))
          refine value_ (w1 := w') (v := .string ((t540 ++ t544) ++ t548)) (by rfl) rfl ?_ ?_
          ·go_simp
           (try simp only [i64_w])
           try rfl
           all_goals (try ((try simp only [ByteArray.size_append] at *); omega))
          refine hK.out _ _ ⟨v538, v542, v546, v550, v554, (by rw [ha.out]; exact putSel_upk 17 hb_ rfl rfl rfl), Q_BK533, Q_HB, Q_HO539, Q_HO543, Q_HO547, Q_HO551, Q_HO555⟩
         refine steps_cons ?_ ?_
         ·rintro b a w' ⟨v538, v542, v546, v550, v554, ha, Q_BK533, Q_HB, Q_HO539, Q_HO543, Q_HO547, Q_HO551, Q_HO555⟩ hb_ hon hoff
          refine ⟨_, rfl, fun K hK => ?_⟩
          have e31 : a.tmps[31]? = some (.pointer (some ⟨gb533, 4, none⟩)) := by rw [ha]; exact (putSel_off rfl).trans rfl
          replace ha := Aside0.mk ha
          have BK533 := Aside0.mk Q_BK533
          have HB := Aside0.mk Q_HB
          have hc0_ : w'.cell? ⟨gb533, 0, none⟩ = some (.bool a0_0) := (blk_cell BK533.out 0).trans rfl
          have hc1_ : w'.cell? ⟨gb533, 1, none⟩ = some (.bool a0_1) := (blk_cell BK533.out 1).trans rfl
          have hc2_ : w'.cell? ⟨gb533, 2, none⟩ = some (.int .i64 a0_2) := (blk_cell BK533.out 2).trans rfl
          have hc3_ : w'.cell? ⟨gb533, 3, none⟩ = some (.int .i64 a0_3) := (blk_cell BK533.out 3).trans rfl
          have hc4_ : w'.cell? ⟨gb533, 4, none⟩ = some (.int .i64 a0_4) := (blk_cell BK533.out 4).trans rfl
          have hc5_ : w'.cell? ⟨gb533, 5, none⟩ = some (.int .i64 a0_5) := (blk_cell BK533.out 5).trans rfl
          refine value_ (w1 := w') (v := .int .i64 a0_4) (by rfl) rfl ?_ ?_
          ·go_simp
           (try simp only [i64_w])
           try rfl
           all_goals (try ((try simp only [ByteArray.size_append] at *); omega))
          refine hK.out _ _ ⟨v538, v542, v546, v550, v554, (by rw [ha.out]; exact putSel_upk 18 hb_ rfl rfl rfl), Q_BK533, Q_HB, Q_HO539, Q_HO543, Q_HO547, fun h0_ => absurd ((hoff 25 (by kernel_rfl)).symm.trans h0_) (by decide), Q_HO555⟩
         refine steps_cons ?_ ?_
         ·rintro b a w' ⟨v538, v542, v546, v550, v554, ha, Q_BK533, Q_HB, Q_HO539, Q_HO543, Q_HO547, Q_HO551, Q_HO555⟩ hb_ hon hoff
          refine ⟨_, rfl, fun K hK => ?_⟩
          have e32 : a.tmps[32]? = some (.int .i64 a0_4) := by rw [ha]; exact putSel_on (e := (24, 32, .int .i64 a0_4)) 18 rfl rfl (hon 24 (by kernel_rfl)) rfl
          replace ha := Aside0.mk ha
          have BK533 := Aside0.mk Q_BK533
          have HB := Aside0.mk Q_HB
          refine Kd.R_lit_step (Kd.int .i64) _ 3 ?hg (N := 33) ?hd (xs := ([a0_4] : List Int)) (inner := [.int .i64 a0_4]) (ok := fun _ => True) (okp := fun _ => True) ?hr ?hp (fun _ hk => hk) trivial (Below.refl _ _) (Nat.le_refl _) (by simp) ?_; (case hd => rfl); (case hg => rfl); (case hr => first | (go_simp; done) | (go_simp; rfl)); (case hp => exact (Reps.one (show Kd.M (Kd.int .i64) _ _ _ a0_4 [.int .i64 a0_4] from rfl) (Reps.none _ _)))
          intro v550 w21 ho22 hb hg_ hnew_
          clear hg_ hnew_
          (first | rw [← Ny549.out] at ho22 | (simp only [Int.reduceToNat] at ho22; rw [← Ny549.out] at ho22))
          have n0_ := Aside0.mk (Kd.R_lower ho22 (below_size (by repeat (first | (with_reducible first | exact HB.out | apply below_alloc | apply pw_below_drewN | apply below_drew1 | refine below_set ?_ GE533.out) | exact HB.out))))
          have n1_ := Aside0.mk (blk_below (g := gb533) (o := .cells #[.bool a0_0, .bool a0_1, .int .i64 a0_2, .int .i64 a0_3, .int .i64 a0_4, .int .i64 a0_5] 72 (0, 0)) (by (with_reducible repeat (first | refine blk_drewN ?_ _ | refine blk_drew ?_ | refine blk_alloc ?_ _)); exact BK533.out) hb)
          have n2_ := Aside0.mk (below_step (by repeat (first | (with_reducible first | exact HB.out | apply below_alloc | apply pw_below_drewN | apply below_drew1 | refine below_set ?_ GE533.out) | exact HB.out)) hb)
          have z_HO539 := fun (h0_ : b 7 = true) => (show Kd.R (Kd.int .i64) 3 w21 w.heap.size (fun _ => True) v538 y537 from by first | exact (Kd.R_elder' (by (with_reducible repeat (first | apply Kd.R_alloc | apply Kd.R_drewN | apply Kd.R_drew)); exact (Q_HO539 h0_)) (Kd.R_base ho22) hb) | exact Kd.R_mono (Kd.R_elder' (by (with_reducible repeat (first | apply Kd.R_alloc | apply Kd.R_drewN | apply Kd.R_drew)); exact (Q_HO539 h0_)) (Kd.R_base ho22) hb) (fun _ h_ => by first | trivial | exact h_ | exact h_.1))
          have z_HO543 := fun (h0_ : b 15 = true) => (show Kd.R (Kd.int .i64) 3 w21 w.heap.size (fun _ => True) v542 y541 from by first | exact (Kd.R_elder' (by (with_reducible repeat (first | apply Kd.R_alloc | apply Kd.R_drewN | apply Kd.R_drew)); exact (Q_HO543 h0_)) (Kd.R_base ho22) hb) | exact Kd.R_mono (Kd.R_elder' (by (with_reducible repeat (first | apply Kd.R_alloc | apply Kd.R_drewN | apply Kd.R_drew)); exact (Q_HO543 h0_)) (Kd.R_base ho22) hb) (fun _ h_ => by first | trivial | exact h_ | exact h_.1))
          have z_HO547 := fun (h0_ : b 20 = true) => (show Kd.R (Kd.int .i64) 3 w21 w.heap.size (fun _ => True) v546 y545 from by first | exact (Kd.R_elder' (by (with_reducible repeat (first | apply Kd.R_alloc | apply Kd.R_drewN | apply Kd.R_drew)); exact (Q_HO547 h0_)) (Kd.R_base ho22) hb) | exact Kd.R_mono (Kd.R_elder' (by (with_reducible repeat (first | apply Kd.R_alloc | apply Kd.R_drewN | apply Kd.R_drew)); exact (Q_HO547 h0_)) (Kd.R_base ho22) hb) (fun _ h_ => by first | trivial | exact h_ | exact h_.1))
          have z_HO555 := fun (h0_ : b 30 = true) => (show Kd.R (Kd.int .i64) 3 w21 w.heap.size (fun _ => True) v554 y553 from by first | exact (Kd.R_elder' (by (with_reducible repeat (first | apply Kd.R_alloc | apply Kd.R_drewN | apply Kd.R_drew)); exact (Q_HO555 h0_)) (Kd.R_base ho22) hb) | exact Kd.R_mono (Kd.R_elder' (by (with_reducible repeat (first | apply Kd.R_alloc | apply Kd.R_drewN | apply Kd.R_drew)); exact (Q_HO555 h0_)) (Kd.R_base ho22) hb) (fun _ h_ => by first | trivial | exact h_ | exact h_.1))
          clear BK533
          clear HB
          have HO551 := n0_
          have BK533 := n1_
          have HB := n2_
          clear n0_ n1_ n2_
          clear hb ho22
          refine hK.out _ _ ⟨v538, v542, v546, v550, v554, (by rw [ha.out]; exact putSel_upk 19 hb_ rfl rfl rfl), (by (with_reducible repeat (first | refine blk_drewN ?_ _ | refine blk_drew ?_ | refine blk_alloc ?_ _)); exact BK533.out), (by repeat (first | (with_reducible first | exact HB.out | apply below_alloc | apply pw_below_drewN | apply below_drew1 | refine below_set ?_ GE533.out) | exact HB.out)), z_HO539, z_HO543, z_HO547, fun _ => (by (with_reducible repeat (first | apply Kd.R_alloc | apply Kd.R_drewN | apply Kd.R_drew)); exact HO551.out), z_HO555⟩
         refine steps_cons ?_ ?_
         ·rintro b a w' ⟨v538, v542, v546, v550, v554, ha, Q_BK533, Q_HB, Q_HO539, Q_HO543, Q_HO547, Q_HO551, Q_HO555⟩ hb_ hon hoff
          refine ⟨_, rfl, fun K hK => ?_⟩
          have e33 : a.tmps[33]? = some (v550) := by rw [ha]; exact putSel_on (e := (25, 33, v550)) 19 rfl rfl (hon 25 (by kernel_rfl)) rfl
          replace ha := Aside0.mk ha
          have BK533 := Aside0.mk Q_BK533
          have HB := Aside0.mk Q_HB
          have HO539 := Aside0.mk (Q_HO539 (hon 7 (by kernel_rfl)))
          have HO543 := Aside0.mk (Q_HO543 (hon 15 (by kernel_rfl)))
          have HO547 := Aside0.mk (Q_HO547 (hon 20 (by kernel_rfl)))
          have HO551 := Aside0.mk (Q_HO551 (hon 25 (by kernel_rfl)))
          obtain ⟨Ao36, co36, eo36⟩ := Kd.R_slice HO551.out
          (first | subst eo36 | (injection eo36 with f1_ f2_ f3_; have f4_ := f1_.symm; have f5_ := f3_.symm; clear f1_ f2_ f3_; subst f4_; subst f5_))
          refine goes_ Tryd.func95 (by kernel_rfl) rfl #[.int .i64 9, .slice Ao36 y549.length co36] (by rfl) rfl rfl (by first | (simp only [List.map_toArray, List.map_cons, List.map_nil, Act.eval, Array.getD_eq_getD_getElem?, Option.getD_some, e33]; done) | (simp only [List.map_toArray, List.map_cons, List.map_nil, Act.eval, Array.getD_eq_getD_getElem?, Option.getD_some, e33]; rfl)) ?_
          with_reducible refine (xid_field.calls k 9 _ _ y549 t552 _ ?side1 ?side2 A11.out).mono ?_
          (case side1 => repeat (first | exact (Kd.R_reads' HO551.out).2.2 | (with_reducible refine Kd.C_alloc ?_ _) | (with_reducible refine Kd.C_drewN ?_ _) | (with_reducible refine Kd.C_drew ?_)))
          (case side2 => exact (Kd.R_reads' HO551.out).2.1)
          rintro e w37 ⟨rfl, hb⟩
          refine ⟨_, rfl, ?_⟩
          have n0_ := Aside0.mk (Kd.R_below (by (with_reducible repeat (first | apply Kd.R_alloc | apply Kd.R_drewN | apply Kd.R_drew)); exact HO539.out) hb)
          have n1_ := Aside0.mk (Kd.R_below (by (with_reducible repeat (first | apply Kd.R_alloc | apply Kd.R_drewN | apply Kd.R_drew)); exact HO543.out) hb)
          have n2_ := Aside0.mk (Kd.R_below (by (with_reducible repeat (first | apply Kd.R_alloc | apply Kd.R_drewN | apply Kd.R_drew)); exact HO547.out) hb)
          have n3_ := Aside0.mk (Kd.R_below (by (with_reducible repeat (first | apply Kd.R_alloc | apply Kd.R_drewN | apply Kd.R_drew)); exact HO551.out) hb)
          have n4_ := Aside0.mk (blk_below (g := gb533) (o := .cells #[.bool a0_0, .bool a0_1, .int .i64 a0_2, .int .i64 a0_3, .int .i64 a0_4, .int .i64 a0_5] 72 (0, 0)) (by (with_reducible repeat (first | refine blk_drewN ?_ _ | refine blk_drew ?_ | refine blk_alloc ?_ _)); exact BK533.out) hb)
          have n5_ := Aside0.mk (below_step (by repeat (first | (with_reducible first | exact HB.out | apply below_alloc | apply pw_below_drewN | apply below_drew1 | refine below_set ?_ GE533.out) | exact HB.out)) hb)
          have z_HO555 := fun (h0_ : b 30 = true) => (show Kd.R (Kd.int .i64) 3 w37 w.heap.size (fun _ => True) v554 y553 from by first | exact (Kd.R_below (by (with_reducible repeat (first | apply Kd.R_alloc | apply Kd.R_drewN | apply Kd.R_drew)); exact (Q_HO555 h0_)) hb) | exact Kd.R_mono (Kd.R_below (by (with_reducible repeat (first | apply Kd.R_alloc | apply Kd.R_drewN | apply Kd.R_drew)); exact (Q_HO555 h0_)) hb) (fun _ h_ => by first | trivial | exact h_ | exact h_.1))
          clear HO539
          clear HO543
          clear HO547
          clear HO551
          clear BK533
          clear HB
          have HO539 := n0_
          have HO543 := n1_
          have HO547 := n2_
          have HO551 := n3_
          have BK533 := n4_
          have HB := n5_
          clear n0_ n1_ n2_ n3_ n4_ n5_
          (try clear hb)
          (try clear hb2)
          (try clear hk)
          (try clear hi)
          refine hK.out _ _ ⟨v538, v542, v546, .slice Ao36 y549.length co36, v554, (by rw [ha.out]; exact putSel_upk 20 hb_ rfl rfl rfl), (by (with_reducible repeat (first | refine blk_drewN ?_ _ | refine blk_drew ?_ | refine blk_alloc ?_ _)); exact BK533.out), (by repeat (first | (with_reducible first | exact HB.out | apply below_alloc | apply pw_below_drewN | apply below_drew1 | refine below_set ?_ GE533.out) | exact HB.out)), fun _ => (by (with_reducible repeat (first | apply Kd.R_alloc | apply Kd.R_drewN | apply Kd.R_drew)); exact HO539.out), fun _ => (by (with_reducible repeat (first | apply Kd.R_alloc | apply Kd.R_drewN | apply Kd.R_drew)); exact HO543.out), fun _ => (by (with_reducible repeat (first | apply Kd.R_alloc | apply Kd.R_drewN | apply Kd.R_drew)); exact HO547.out), fun _ => (by (with_reducible repeat (first | apply Kd.R_alloc | apply Kd.R_drewN | apply Kd.R_drew)); exact HO551.out), z_HO555⟩
         refine steps_cons ?_ ?_
         ·rintro b a w' ⟨v538, v542, v546, v550, v554, ha, Q_BK533, Q_HB, Q_HO539, Q_HO543, Q_HO547, Q_HO551, Q_HO555⟩ hb_ hon hoff
          refine ⟨_, rfl, fun K hK => ?_⟩
          have e30 : a.tmps[30]? = some (.string ((t540 ++ t544) ++ t548)) := by rw [ha]; exact putSel_on (e := (22, 30, .string ((t540 ++ t544) ++ t548))) 17 rfl rfl (hon 22 (by kernel_rfl)) rfl
          have e34 : a.tmps[34]? = some (.string t552) := by rw [ha]; exact putSel_on (e := (26, 34, .string t552)) 20 rfl rfl (hon 26 (by kernel_rfl)) rfl
          replace ha := Aside0.mk ha
          have BK533 := Aside0.mk Q_BK533
          have HB := Aside0.mk Q_HB
          have HO539 := Aside0.mk (Q_HO539 (hon 7 (by kernel_rfl)))
          have HO543 := Aside0.mk (Q_HO543 (hon 15 (by kernel_rfl)))
          have HO547 := Aside0.mk (Q_HO547 (hon 20 (by kernel_rfl)))
          have HO551 := Aside0.mk (Q_HO551 (hon 25 (by kernel_rfl)))
          refine value_ (w1 := w') (v := .string (((t540 ++ t544) ++ t548) ++ t552)) (by rfl) rfl ?_ ?_
          ·go_simp
           (try simp only [i64_w])
           try rfl
           all_goals (try ((try simp only [ByteArray.size_append] at *); omega))
          refine hK.out _ _ ⟨v538, v542, v546, v550, v554, (by rw [ha.out]; exact putSel_upk 21 hb_ rfl rfl rfl), Q_BK533, Q_HB, Q_HO539, Q_HO543, Q_HO547, Q_HO551, Q_HO555⟩
         refine steps_cons ?_ ?_
         ·rintro b a w' ⟨v538, v542, v546, v550, v554, ha, Q_BK533, Q_HB, Q_HO539, Q_HO543, Q_HO547, Q_HO551, Q_HO555⟩ hb_ hon hoff
          refine ⟨_, rfl, fun K hK => ?_⟩
          have e36 : a.tmps[36]? = some (.pointer (some ⟨gb533, 5, none⟩)) := by rw [ha]; exact (putSel_off rfl).trans rfl
          replace ha := Aside0.mk ha
          have BK533 := Aside0.mk Q_BK533
          have HB := Aside0.mk Q_HB
          have hc0_ : w'.cell? ⟨gb533, 0, none⟩ = some (.bool a0_0) := (blk_cell BK533.out 0).trans rfl
          have hc1_ : w'.cell? ⟨gb533, 1, none⟩ = some (.bool a0_1) := (blk_cell BK533.out 1).trans rfl
          have hc2_ : w'.cell? ⟨gb533, 2, none⟩ = some (.int .i64 a0_2) := (blk_cell BK533.out 2).trans rfl
          have hc3_ : w'.cell? ⟨gb533, 3, none⟩ = some (.int .i64 a0_3) := (blk_cell BK533.out 3).trans rfl
          have hc4_ : w'.cell? ⟨gb533, 4, none⟩ = some (.int .i64 a0_4) := (blk_cell BK533.out 4).trans rfl
          have hc5_ : w'.cell? ⟨gb533, 5, none⟩ = some (.int .i64 a0_5) := (blk_cell BK533.out 5).trans rfl
          refine value_ (w1 := w') (v := .int .i64 a0_5) (by rfl) rfl ?_ ?_
          ·go_simp
           (try simp only [i64_w])
           try rfl
           all_goals (try ((try simp only [ByteArray.size_append] at *); omega))
          refine hK.out _ _ ⟨v538, v542, v546, v550, v554, (by rw [ha.out]; exact putSel_upk 22 hb_ rfl rfl rfl), Q_BK533, Q_HB, Q_HO539, Q_HO543, Q_HO547, Q_HO551, fun h0_ => absurd ((hoff 30 (by kernel_rfl)).symm.trans h0_) (by decide)⟩
         refine steps_cons ?_ ?_
         ·rintro b a w' ⟨v538, v542, v546, v550, v554, ha, Q_BK533, Q_HB, Q_HO539, Q_HO543, Q_HO547, Q_HO551, Q_HO555⟩ hb_ hon hoff
          refine ⟨_, rfl, fun K hK => ?_⟩
          have e37 : a.tmps[37]? = some (.int .i64 a0_5) := by rw [ha]; exact putSel_on (e := (29, 37, .int .i64 a0_5)) 22 rfl rfl (hon 29 (by kernel_rfl)) rfl
          replace ha := Aside0.mk ha
          have BK533 := Aside0.mk Q_BK533
          have HB := Aside0.mk Q_HB
          refine Kd.R_lit_step (Kd.int .i64) _ 3 ?hg (N := 38) ?hd (xs := ([a0_5] : List Int)) (inner := [.int .i64 a0_5]) (ok := fun _ => True) (okp := fun _ => True) ?hr ?hp (fun _ hk => hk) trivial (Below.refl _ _) (Nat.le_refl _) (by simp) ?_; (case hd => rfl); (case hg => rfl); (case hr => first | (go_simp; done) | (go_simp; rfl)); (case hp => exact (Reps.one (show Kd.M (Kd.int .i64) _ _ _ a0_5 [.int .i64 a0_5] from rfl) (Reps.none _ _)))
          intro v554 w21 ho22 hb hg_ hnew_
          clear hg_ hnew_
          (first | rw [← Ny553.out] at ho22 | (simp only [Int.reduceToNat] at ho22; rw [← Ny553.out] at ho22))
          have n0_ := Aside0.mk (Kd.R_lower ho22 (below_size (by repeat (first | (with_reducible first | exact HB.out | apply below_alloc | apply pw_below_drewN | apply below_drew1 | refine below_set ?_ GE533.out) | exact HB.out))))
          have n1_ := Aside0.mk (blk_below (g := gb533) (o := .cells #[.bool a0_0, .bool a0_1, .int .i64 a0_2, .int .i64 a0_3, .int .i64 a0_4, .int .i64 a0_5] 72 (0, 0)) (by (with_reducible repeat (first | refine blk_drewN ?_ _ | refine blk_drew ?_ | refine blk_alloc ?_ _)); exact BK533.out) hb)
          have n2_ := Aside0.mk (below_step (by repeat (first | (with_reducible first | exact HB.out | apply below_alloc | apply pw_below_drewN | apply below_drew1 | refine below_set ?_ GE533.out) | exact HB.out)) hb)
          have z_HO539 := fun (h0_ : b 7 = true) => (show Kd.R (Kd.int .i64) 3 w21 w.heap.size (fun _ => True) v538 y537 from by first | exact (Kd.R_elder' (by (with_reducible repeat (first | apply Kd.R_alloc | apply Kd.R_drewN | apply Kd.R_drew)); exact (Q_HO539 h0_)) (Kd.R_base ho22) hb) | exact Kd.R_mono (Kd.R_elder' (by (with_reducible repeat (first | apply Kd.R_alloc | apply Kd.R_drewN | apply Kd.R_drew)); exact (Q_HO539 h0_)) (Kd.R_base ho22) hb) (fun _ h_ => by first | trivial | exact h_ | exact h_.1))
          have z_HO543 := fun (h0_ : b 15 = true) => (show Kd.R (Kd.int .i64) 3 w21 w.heap.size (fun _ => True) v542 y541 from by first | exact (Kd.R_elder' (by (with_reducible repeat (first | apply Kd.R_alloc | apply Kd.R_drewN | apply Kd.R_drew)); exact (Q_HO543 h0_)) (Kd.R_base ho22) hb) | exact Kd.R_mono (Kd.R_elder' (by (with_reducible repeat (first | apply Kd.R_alloc | apply Kd.R_drewN | apply Kd.R_drew)); exact (Q_HO543 h0_)) (Kd.R_base ho22) hb) (fun _ h_ => by first | trivial | exact h_ | exact h_.1))
          have z_HO547 := fun (h0_ : b 20 = true) => (show Kd.R (Kd.int .i64) 3 w21 w.heap.size (fun _ => True) v546 y545 from by first | exact (Kd.R_elder' (by (with_reducible repeat (first | apply Kd.R_alloc | apply Kd.R_drewN | apply Kd.R_drew)); exact (Q_HO547 h0_)) (Kd.R_base ho22) hb) | exact Kd.R_mono (Kd.R_elder' (by (with_reducible repeat (first | apply Kd.R_alloc | apply Kd.R_drewN | apply Kd.R_drew)); exact (Q_HO547 h0_)) (Kd.R_base ho22) hb) (fun _ h_ => by first | trivial | exact h_ | exact h_.1))
          have z_HO551 := fun (h0_ : b 25 = true) => (show Kd.R (Kd.int .i64) 3 w21 w.heap.size (fun _ => True) v550 y549 from by first | exact (Kd.R_elder' (by (with_reducible repeat (first | apply Kd.R_alloc | apply Kd.R_drewN | apply Kd.R_drew)); exact (Q_HO551 h0_)) (Kd.R_base ho22) hb) | exact Kd.R_mono (Kd.R_elder' (by (with_reducible repeat (first | apply Kd.R_alloc | apply Kd.R_drewN | apply Kd.R_drew)); exact (Q_HO551 h0_)) (Kd.R_base ho22) hb) (fun _ h_ => by first | trivial | exact h_ | exact h_.1))
          clear BK533
          clear HB
          have HO555 := n0_
          have BK533 := n1_
          have HB := n2_
          clear n0_ n1_ n2_
          clear hb ho22
          refine hK.out _ _ ⟨v538, v542, v546, v550, v554, (by rw [ha.out]; exact putSel_upk 23 hb_ rfl rfl rfl), (by (with_reducible repeat (first | refine blk_drewN ?_ _ | refine blk_drew ?_ | refine blk_alloc ?_ _)); exact BK533.out), (by repeat (first | (with_reducible first | exact HB.out | apply below_alloc | apply pw_below_drewN | apply below_drew1 | refine below_set ?_ GE533.out) | exact HB.out)), z_HO539, z_HO543, z_HO547, z_HO551, fun _ => (by (with_reducible repeat (first | apply Kd.R_alloc | apply Kd.R_drewN | apply Kd.R_drew)); exact HO555.out)⟩
         refine steps_cons ?_ ?_
         ·rintro b a w' ⟨v538, v542, v546, v550, v554, ha, Q_BK533, Q_HB, Q_HO539, Q_HO543, Q_HO547, Q_HO551, Q_HO555⟩ hb_ hon hoff
          refine ⟨_, rfl, fun K hK => ?_⟩
          have e38 : a.tmps[38]? = some (v554) := by rw [ha]; exact putSel_on (e := (30, 38, v554)) 23 rfl rfl (hon 30 (by kernel_rfl)) rfl
          replace ha := Aside0.mk ha
          have BK533 := Aside0.mk Q_BK533
          have HB := Aside0.mk Q_HB
          have HO539 := Aside0.mk (Q_HO539 (hon 7 (by kernel_rfl)))
          have HO543 := Aside0.mk (Q_HO543 (hon 15 (by kernel_rfl)))
          have HO547 := Aside0.mk (Q_HO547 (hon 20 (by kernel_rfl)))
          have HO551 := Aside0.mk (Q_HO551 (hon 25 (by kernel_rfl)))
          have HO555 := Aside0.mk (Q_HO555 (hon 30 (by kernel_rfl)))
          obtain ⟨Ao40, co40, eo40⟩ := Kd.R_slice HO555.out
          (first | subst eo40 | (injection eo40 with f1_ f2_ f3_; have f4_ := f1_.symm; have f5_ := f3_.symm; clear f1_ f2_ f3_; subst f4_; subst f5_))
          refine goes_ Tryd.func95 (by kernel_rfl) rfl #[.int .i64 10, .slice Ao40 y553.length co40] (by rfl) rfl rfl (by first | (simp only [List.map_toArray, List.map_cons, List.map_nil, Act.eval, Array.getD_eq_getD_getElem?, Option.getD_some, e38]; done) | (simp only [List.map_toArray, List.map_cons, List.map_nil, Act.eval, Array.getD_eq_getD_getElem?, Option.getD_some, e38]; rfl)) ?_
          with_reducible refine (xid_field.calls k 10 _ _ y553 t556 _ ?side1 ?side2 A13.out).mono ?_
          (case side1 => repeat (first | exact (Kd.R_reads' HO555.out).2.2 | (with_reducible refine Kd.C_alloc ?_ _) | (with_reducible refine Kd.C_drewN ?_ _) | (with_reducible refine Kd.C_drew ?_)))
          (case side2 => exact (Kd.R_reads' HO555.out).2.1)
          rintro e w41 ⟨rfl, hb⟩
          refine ⟨_, rfl, ?_⟩
          have n0_ := Aside0.mk (Kd.R_below (by (with_reducible repeat (first | apply Kd.R_alloc | apply Kd.R_drewN | apply Kd.R_drew)); exact HO539.out) hb)
          have n1_ := Aside0.mk (Kd.R_below (by (with_reducible repeat (first | apply Kd.R_alloc | apply Kd.R_drewN | apply Kd.R_drew)); exact HO543.out) hb)
          have n2_ := Aside0.mk (Kd.R_below (by (with_reducible repeat (first | apply Kd.R_alloc | apply Kd.R_drewN | apply Kd.R_drew)); exact HO547.out) hb)
          have n3_ := Aside0.mk (Kd.R_below (by (with_reducible repeat (first | apply Kd.R_alloc | apply Kd.R_drewN | apply Kd.R_drew)); exact HO551.out) hb)
          have n4_ := Aside0.mk (Kd.R_below (by (with_reducible repeat (first | apply Kd.R_alloc | apply Kd.R_drewN | apply Kd.R_drew)); exact HO555.out) hb)
          have n5_ := Aside0.mk (blk_below (g := gb533) (o := .cells #[.bool a0_0, .bool a0_1, .int .i64 a0_2, .int .i64 a0_3, .int .i64 a0_4, .int .i64 a0_5] 72 (0, 0)) (by (with_reducible repeat (first | refine blk_drewN ?_ _ | refine blk_drew ?_ | refine blk_alloc ?_ _)); exact BK533.out) hb)
          have n6_ := Aside0.mk (below_step (by repeat (first | (with_reducible first | exact HB.out | apply below_alloc | apply pw_below_drewN | apply below_drew1 | refine below_set ?_ GE533.out) | exact HB.out)) hb)
          clear HO539
          clear HO543
          clear HO547
          clear HO551
          clear HO555
          clear BK533
          clear HB
          have HO539 := n0_
          have HO543 := n1_
          have HO547 := n2_
          have HO551 := n3_
          have HO555 := n4_
          have BK533 := n5_
          have HB := n6_
          clear n0_ n1_ n2_ n3_ n4_ n5_ n6_
          (try clear hb)
          (try clear hb2)
          (try clear hk)
          (try clear hi)
          refine hK.out _ _ ⟨v538, v542, v546, v550, .slice Ao40 y553.length co40, (by rw [ha.out]; exact putSel_upk 24 hb_ rfl rfl rfl), (by (with_reducible repeat (first | refine blk_drewN ?_ _ | refine blk_drew ?_ | refine blk_alloc ?_ _)); exact BK533.out), (by repeat (first | (with_reducible first | exact HB.out | apply below_alloc | apply pw_below_drewN | apply below_drew1 | refine below_set ?_ GE533.out) | exact HB.out)), fun _ => (by (with_reducible repeat (first | apply Kd.R_alloc | apply Kd.R_drewN | apply Kd.R_drew)); exact HO539.out), fun _ => (by (with_reducible repeat (first | apply Kd.R_alloc | apply Kd.R_drewN | apply Kd.R_drew)); exact HO543.out), fun _ => (by (with_reducible repeat (first | apply Kd.R_alloc | apply Kd.R_drewN | apply Kd.R_drew)); exact HO547.out), fun _ => (by (with_reducible repeat (first | apply Kd.R_alloc | apply Kd.R_drewN | apply Kd.R_drew)); exact HO551.out), fun _ => (by (with_reducible repeat (first | apply Kd.R_alloc | apply Kd.R_drewN | apply Kd.R_drew)); exact HO555.out)⟩
         refine steps_cons ?_ ?_
         ·rintro b a w' ⟨v538, v542, v546, v550, v554, ha, Q_BK533, Q_HB, Q_HO539, Q_HO543, Q_HO547, Q_HO551, Q_HO555⟩ hb_ hon hoff
          refine ⟨_, rfl, fun K hK => ?_⟩
          have e35 : a.tmps[35]? = some (.string (((t540 ++ t544) ++ t548) ++ t552)) := by rw [ha]; exact putSel_on (e := (27, 35, .string (((t540 ++ t544) ++ t548) ++ t552))) 21 rfl rfl (hon 27 (by kernel_rfl)) rfl
          have e39 : a.tmps[39]? = some (.string t556) := by rw [ha]; exact putSel_on (e := (31, 39, .string t556)) 24 rfl rfl (hon 31 (by kernel_rfl)) rfl
          replace ha := Aside0.mk ha
          have BK533 := Aside0.mk Q_BK533
          have HB := Aside0.mk Q_HB
          have HO539 := Aside0.mk (Q_HO539 (hon 7 (by kernel_rfl)))
          have HO543 := Aside0.mk (Q_HO543 (hon 15 (by kernel_rfl)))
          have HO547 := Aside0.mk (Q_HO547 (hon 20 (by kernel_rfl)))
          have HO551 := Aside0.mk (Q_HO551 (hon 25 (by kernel_rfl)))
          have HO555 := Aside0.mk (Q_HO555 (hon 30 (by kernel_rfl)))
          refine value_ (w1 := w') (v := .string ((((t540 ++ t544) ++ t548) ++ t552) ++ t556)) (by rfl) rfl ?_ ?_
          ·go_simp
           (try simp only [i64_w])
           try rfl
           all_goals (try ((try simp only [ByteArray.size_append] at *); omega))
          refine hK.out _ _ ⟨v538, v542, v546, v550, v554, (by rw [ha.out]; exact putSel_upk 25 hb_ rfl rfl rfl), Q_BK533, Q_HB, Q_HO539, Q_HO543, Q_HO547, Q_HO551, Q_HO555⟩
         refine steps_cons ?_ ?_
         ·rintro b a w' ⟨v538, v542, v546, v550, v554, ha, Q_BK533, Q_HB, Q_HO539, Q_HO543, Q_HO547, Q_HO551, Q_HO555⟩ hb_ hon hoff
          refine ⟨_, rfl, fun K hK => ?_⟩
          have e40 : a.tmps[40]? = some (.string ((((t540 ++ t544) ++ t548) ++ t552) ++ t556)) := by rw [ha]; exact putSel_on (e := (32, 40, .string ((((t540 ++ t544) ++ t548) ++ t552) ++ t556))) 25 rfl rfl (hon 32 (by kernel_rfl)) rfl
          replace ha := Aside0.mk ha
          have BK533 := Aside0.mk Q_BK533
          have HB := Aside0.mk Q_HB
          have HO539 := Aside0.mk (Q_HO539 (hon 7 (by kernel_rfl)))
          have HO543 := Aside0.mk (Q_HO543 (hon 15 (by kernel_rfl)))
          have HO547 := Aside0.mk (Q_HO547 (hon 20 (by kernel_rfl)))
          have HO551 := Aside0.mk (Q_HO551 (hon 25 (by kernel_rfl)))
          have HO555 := Aside0.mk (Q_HO555 (hon 30 (by kernel_rfl)))
          refine value_ (w1 := w') (v := .string ((((t540 ++ t544) ++ t548) ++ t552) ++ t556)) (by rfl) rfl ?_ ?_
          ·go_simp
           (try simp only [i64_w])
           try rfl
           all_goals (try ((try simp only [ByteArray.size_append] at *); omega))
          refine hK.out _ _ ⟨v538, v542, v546, v550, v554, (by rw [ha.out]; exact putSel_upk 26 hb_ rfl rfl rfl), Q_BK533, Q_HB, Q_HO539, Q_HO543, Q_HO547, Q_HO551, Q_HO555⟩
         exact steps_nil
        rintro b a w41 hall ⟨v538, v542, v546, v550, v554, ha, Q_BK533, Q_HB, Q_HO539, Q_HO543, Q_HO547, Q_HO551, Q_HO555⟩
        clear BK533 HB
        have hb1_ := hall 1 (by kernel_rfl)
        have hb2_ := hall 2 (by kernel_rfl)
        have hb4_ := hall 4 (by kernel_rfl)
        have hb5_ := hall 5 (by kernel_rfl)
        have hb6_ := hall 6 (by kernel_rfl)
        have hb7_ := hall 7 (by kernel_rfl)
        have hb8_ := hall 8 (by kernel_rfl)
        have hb10_ := hall 10 (by kernel_rfl)
        have hb11_ := hall 11 (by kernel_rfl)
        have hb13_ := hall 13 (by kernel_rfl)
        have hb14_ := hall 14 (by kernel_rfl)
        have hb15_ := hall 15 (by kernel_rfl)
        have hb16_ := hall 16 (by kernel_rfl)
        have hb17_ := hall 17 (by kernel_rfl)
        have hb19_ := hall 19 (by kernel_rfl)
        have hb20_ := hall 20 (by kernel_rfl)
        have hb21_ := hall 21 (by kernel_rfl)
        have hb22_ := hall 22 (by kernel_rfl)
        have hb24_ := hall 24 (by kernel_rfl)
        have hb25_ := hall 25 (by kernel_rfl)
        have hb26_ := hall 26 (by kernel_rfl)
        have hb27_ := hall 27 (by kernel_rfl)
        have hb29_ := hall 29 (by kernel_rfl)
        have hb30_ := hall 30 (by kernel_rfl)
        have hb31_ := hall 31 (by kernel_rfl)
        have hb32_ := hall 32 (by kernel_rfl)
        have hb33_ := hall 33 (by kernel_rfl)
        subst ha
        simp only [putSel, hb1_, hb2_, hb4_, hb5_, hb6_, hb7_, hb8_, hb10_, hb11_, hb13_, hb14_, hb15_, hb16_, hb17_, hb19_, hb20_, hb21_, hb22_, hb24_, hb25_, hb26_, hb27_, hb29_, hb30_, hb31_, hb32_, hb33_, if_true, Act.put, List.setIfInBounds_toArray, List.set_cons_zero, List.set_cons_succ]
        have BK533 := Aside0.mk Q_BK533
        clear Q_BK533
        have HB := Aside0.mk Q_HB
        clear Q_HB
        have HO539 := Aside0.mk (Q_HO539 hb7_)
        clear Q_HO539
        have HO543 := Aside0.mk (Q_HO543 hb15_)
        clear Q_HO543
        have HO547 := Aside0.mk (Q_HO547 hb20_)
        clear Q_HO547
        have HO551 := Aside0.mk (Q_HO551 hb25_)
        clear Q_HO551
        have HO555 := Aside0.mk (Q_HO555 hb30_)
        clear Q_HO555
        clear hall hb1_ hb2_ hb4_ hb5_ hb6_ hb7_ hb8_ hb10_ hb11_ hb13_ hb14_ hb15_ hb16_ hb17_ hb19_ hb20_ hb21_ hb22_ hb24_ hb25_ hb26_ hb27_ hb29_ hb30_ hb31_ hb32_ hb33_
        try go_wp2_with (first | ((with_reducible refine gate_dst (N := 44) rfl ?_); refine Kd.R_lit (Kd.int .u8) _ 5 ?hg (N := 44) ?hd (xs := ([0, ((((((t540 ++ t544) ++ t548) ++ t552) ++ t556).size : Int)) % 256] : List Int)) (inner := [.int .u8 0, .int .u8 (((((((t540 ++ t544) ++ t548) ++ t552) ++ t556).size : Int)) % 256)]) (ok := fun _ => True) (okp := fun _ => True) ?hr ?hp (fun _ hk => hk) trivial (Below.refl _ _) (Nat.le_refl _) (by simp) ?_; (case hd => rfl); (case hg => rfl); (case hr => first | (go_simp; done) | (go_simp; rfl)); (case hp => exact (Reps.one (show Kd.M (Kd.int .u8) _ _ _ 0 [.int .u8 0] from rfl) (Reps.one (show Kd.M (Kd.int .u8) _ _ _ (((((((t540 ++ t544) ++ t548) ++ t552) ++ t556).size : Int)) % 256) [.int .u8 (((((((t540 ++ t544) ++ t548) ++ t552) ++ t556).size : Int)) % 256)] from rfl) (Reps.none _ _)))); intro v558 w42 ho43 hb hg_ hnew_; clear hg_ hnew_; (first | rw [← Ny557.out] at ho43 | (simp only [Int.reduceToNat] at ho43; rw [← Ny557.out] at ho43)); have n0_ := Aside0.mk (Kd.R_below (by (with_reducible repeat (first | apply Kd.R_alloc | apply Kd.R_drewN | apply Kd.R_drew)); exact HO539.out) hb); have n1_ := Aside0.mk (Kd.R_below (by (with_reducible repeat (first | apply Kd.R_alloc | apply Kd.R_drewN | apply Kd.R_drew)); exact HO543.out) hb); have n2_ := Aside0.mk (Kd.R_below (by (with_reducible repeat (first | apply Kd.R_alloc | apply Kd.R_drewN | apply Kd.R_drew)); exact HO547.out) hb); have n3_ := Aside0.mk (Kd.R_below (by (with_reducible repeat (first | apply Kd.R_alloc | apply Kd.R_drewN | apply Kd.R_drew)); exact HO551.out) hb); have n4_ := Aside0.mk (Kd.R_below (by (with_reducible repeat (first | apply Kd.R_alloc | apply Kd.R_drewN | apply Kd.R_drew)); exact HO555.out) hb); have n5_ := Aside0.mk (Kd.R_lower ho43 (below_size (by repeat (first | (with_reducible first | exact HB.out | apply below_alloc | apply pw_below_drewN | apply below_drew1 | refine below_set ?_ GE533.out) | exact HB.out)))); have n6_ := Aside0.mk (blk_below (g := gb533) (o := .cells #[.bool a0_0, .bool a0_1, .int .i64 a0_2, .int .i64 a0_3, .int .i64 a0_4, .int .i64 a0_5] 72 (0, 0)) (by (with_reducible repeat (first | refine blk_drewN ?_ _ | refine blk_drew ?_ | refine blk_alloc ?_ _)); exact BK533.out) hb); have n7_ := Aside0.mk (below_step (by repeat (first | (with_reducible first | exact HB.out | apply below_alloc | apply pw_below_drewN | apply below_drew1 | refine below_set ?_ GE533.out) | exact HB.out)) hb); clear HO539; clear HO543; clear HO547; clear HO551; clear HO555; clear BK533; clear HB; have HO539 := n0_; have HO543 := n1_; have HO547 := n2_; have HO551 := n3_; have HO555 := n4_; have HO559 := n5_; have BK533 := n6_; have HB := n7_; clear n0_ n1_ n2_ n3_ n4_ n5_ n6_ n7_; clear hb ho43; have hcv44 := own_string (P := Tryd.prog) Tryd.underlying104 Tryd.underlying5 Tryd.underlying9 (Kd.own_of_R HO559.out)))
        go_ret2
        exact ⟨by first | rfl | (simp [errW_none, errW_some] <;> rfl) | (simp [*, errW_none, errW_some] <;> rfl), by repeat (first | (with_reducible first | exact HB.out | apply below_alloc | apply pw_below_drewN | apply below_drew1 | refine below_set ?_ GE533.out) | exact HB.out)⟩
       ·rw [if_neg c16] at H
        exact absurd H (by simp)
      ·rw [if_neg c15] at H
       exact absurd H (by simp)
     ·rw [if_neg c14] at H
      exact absurd H (by simp)
    ·rw [if_neg c12] at H
     exact absurd H (by simp)
   ·rw [if_neg c10] at H
    exact absurd H (by simp)
  ·rw [if_neg c8] at H
   exact absurd H (by simp)
 ·replace c3 := Bool.eq_false_iff.mpr c3
  subst c3
  have H1 : (some ((⟨#[]⟩ : ByteArray), 1)) = some (r1, r2) := by rw [if_neg (show ¬ (false = true) by decide)] at H; exact H
  clear H
  have H := H1
  clear H1
  simp only [Option.some.injEq, Prod.mk.injEq] at H
  obtain ⟨rfl, rfl⟩ := H
  go_enter Tryd.func74, Tryd.ntmps74
  go_wp2_with (first | ((with_reducible refine gate_dst (N := 1) rfl ?_); refine box_event ?hg (N := 1) ?hd (cs := #[.bool a0_0, .bool a0_1, .int .i64 a0_2, .int .i64 a0_3, .int .i64 a0_4, .int .i64 a0_5]) (t := 72) ?hr ?_; (case hd => rfl); (case hg => rfl); (case hr => first | (go_simp; done) | (go_simp; rfl)); intro gb533 hg w45 hbox hb; have n0_ := Aside0.mk (below_step (by repeat (first | (with_reducible first | exact HB.out | apply below_alloc | apply pw_below_drewN | apply below_drew1) | exact HB.out)) hb); have n1_ := Aside0.mk (hbox); have n2_ := Aside0.mk ((by rw [hg]; exact (below_size (by repeat (first | (with_reducible first | exact HB.out | apply below_alloc | apply pw_below_drewN | apply below_drew1) | exact HB.out))) : w.heap.size ≤ gb533)); have n3_ := Aside0.mk ((by rw [hg]; exact (below_size (by repeat (first | (with_reducible first | exact HB.out | apply below_alloc | apply pw_below_drewN | apply below_drew1) | exact HB.out))) : w.heap.size ≤ gb533)); clear HB; have HB := n0_; have BK533 := n1_; have GW533 := n2_; have GE533 := n3_; clear n0_ n1_ n2_ n3_; clear hb hbox hg; have hcz46_0 : w45.cell? ⟨gb533, 0, none⟩ = some (.bool a0_0) := (blk_cell BK533.out 0).trans rfl; have hcz46_1 : w45.cell? ⟨gb533, 1, none⟩ = some (.bool a0_1) := (blk_cell BK533.out 1).trans rfl; have hcz46_2 : w45.cell? ⟨gb533, 2, none⟩ = some (.int .i64 a0_2) := (blk_cell BK533.out 2).trans rfl; have hcz46_3 : w45.cell? ⟨gb533, 3, none⟩ = some (.int .i64 a0_3) := (blk_cell BK533.out 3).trans rfl; have hcz46_4 : w45.cell? ⟨gb533, 4, none⟩ = some (.int .i64 a0_4) := (blk_cell BK533.out 4).trans rfl; have hcz46_5 : w45.cell? ⟨gb533, 5, none⟩ = some (.int .i64 a0_5) := (blk_cell BK533.out 5).trans rfl; have hfz46_0 := blk_frozen BK533.out 0; have hfz46_1 := blk_frozen BK533.out 1; have hfz46_2 := blk_frozen BK533.out 2; have hfz46_3 := blk_frozen BK533.out 3; have hfz46_4 := blk_frozen BK533.out 4; have hfz46_5 := blk_frozen BK533.out 5) | ((with_reducible refine gate_callee (f := 51) rfl ?_); refine goesL_ (some 6) rfl rfl Tryd.func51 (by kernel_rfl) rfl #[.agg #[.bool a0_0, .bool a0_1, .int .i64 a0_2, .int .i64 a0_3, .int .i64 a0_4, .int .i64 a0_5]] rfl (by (try simp only [List.map_toArray, List.map_cons, List.map_nil]); first | done | rfl | (simp only [List.length_drop, List.length_take]; rfl)) ?_; (with_reducible refine (xid_Right.calls a0_0 a0_1 a0_2 a0_3 a0_4 a0_5 false _ A2.out).mono ?_); rintro e w47 ⟨rfl, hb⟩; refine ⟨_, rfl, ?_⟩; have n0_ := Aside0.mk (blk_below (g := gb533) (o := .cells #[.bool a0_0, .bool a0_1, .int .i64 a0_2, .int .i64 a0_3, .int .i64 a0_4, .int .i64 a0_5] 72 (0, 0)) (by (with_reducible repeat (first | refine blk_drewN ?_ _ | refine blk_drew ?_ | refine blk_alloc ?_ _)); exact BK533.out) hb); have n1_ := Aside0.mk (below_step (by repeat (first | (with_reducible first | exact HB.out | apply below_alloc | apply pw_below_drewN | apply below_drew1 | refine below_set ?_ GE533.out) | exact HB.out)) hb); clear BK533; clear HB; have BK533 := n0_; have HB := n1_; clear n0_ n1_; (try clear hb); (try clear hb2); (try clear hk); (try clear hi)))
  go_ret2
  exact ⟨by first | rfl | (simp [errW_none, errW_some] <;> rfl) | (simp [*, errW_none, errW_some] <;> rfl), by repeat (first | (with_reducible first | exact HB.out | apply below_alloc | apply pw_below_drewN | apply below_drew1 | refine below_set ?_ GE533.out) | exact HB.out)⟩

end Go.Proofs.YtpmieapgbdbabaaDoor.QAll
end

section
/- Walks, written by a program of this session (wip/pp): a Go function comes to what the Lean function beside it tells. -/
namespace Go.Proofs.YtpmieapgbdbabaaDoor.QAll
open Go.RowKit Go.Proofs.YtpmieapgbdbabaaDoorW.PrintWords Go.Proofs.YtpmieapgbdbabaaDoorW.PrintLast Go.Proofs.YtpmieapgbdbabaaDoorW.PrintMore
attribute [local go_sem] max2_int min2_int max_two min_two max_three min_three max_four min_four
set_option linter.unusedVariables false
set_option linter.unusedSimpArgs false

def xid_Usual.f  : Option (Bool × Bool × Int × Int × Int × Int) := some (false, false, 64, 4, 20, 5)
set_option maxHeartbeats 8000000 in
set_option maxRecDepth 100000 in
theorem xid_Usual.calls  (r1 : Bool) (r2 : Bool) (r3 : Int) (r4 : Int) (r5 : Int) (r6 : Int) (w : World) (h : xid_Usual.f  = some (r1, r2, r3, r4, r5, r6)) :
  Calls Tryd.prog 75 #[] w fun e w' => e = .returned (.agg #[.bool r1, .bool r2, .int .i64 r3, .int .i64 r4, .int .i64 r5, .int .i64 r6]) ∧ Below w.heap.size w w' := by
 have hu72 := Tryd.underlying72
 have HB := Aside0.mk (Below.refl w.heap.size w)
 have H : (some (false, false, 64, 4, 20, 5)) = some (r1, r2, r3, r4, r5, r6) := h
 clear h
 simp only [Option.some.injEq, Prod.mk.injEq] at H
 obtain ⟨rfl, rfl, rfl, rfl, rfl, rfl⟩ := H
 go_enter Tryd.func75, Tryd.ntmps75
 go_wp2_with (first | ((with_reducible refine gate_dst (N := 0) rfl ?_); refine box_event ?hg (N := 0) ?hd (cs := #[.bool false, .bool false, .int .i64 0, .int .i64 0, .int .i64 0, .int .i64 0]) (t := 72) ?hr ?_; (case hd => rfl); (case hg => rfl); (case hr => first | (go_simp; done) | (go_simp; rfl)); intro gb560 hg w1 hbox hb; have n0_ := Aside0.mk (below_step (by repeat (first | (with_reducible first | exact HB.out | apply below_alloc | apply pw_below_drewN | apply below_drew1) | exact HB.out)) hb); have n1_ := Aside0.mk (hbox); have n2_ := Aside0.mk ((by rw [hg]; exact (below_size (by repeat (first | (with_reducible first | exact HB.out | apply below_alloc | apply pw_below_drewN | apply below_drew1) | exact HB.out))) : w.heap.size ≤ gb560)); have n3_ := Aside0.mk ((by rw [hg]; exact (below_size (by repeat (first | (with_reducible first | exact HB.out | apply below_alloc | apply pw_below_drewN | apply below_drew1) | exact HB.out))) : w.heap.size ≤ gb560)); clear HB; have HB := n0_; have BK560 := n1_; have GW560 := n2_; have GE560 := n3_; clear n0_ n1_ n2_ n3_; clear hb hbox hg; have hcz2_0 : w1.cell? ⟨gb560, 0, none⟩ = some (.bool false) := (blk_cell BK560.out 0).trans rfl; have hcz2_1 : w1.cell? ⟨gb560, 1, none⟩ = some (.bool false) := (blk_cell BK560.out 1).trans rfl; have hcz2_2 : w1.cell? ⟨gb560, 2, none⟩ = some (.int .i64 0) := (blk_cell BK560.out 2).trans rfl; have hcz2_3 : w1.cell? ⟨gb560, 3, none⟩ = some (.int .i64 0) := (blk_cell BK560.out 3).trans rfl; have hcz2_4 : w1.cell? ⟨gb560, 4, none⟩ = some (.int .i64 0) := (blk_cell BK560.out 4).trans rfl; have hcz2_5 : w1.cell? ⟨gb560, 5, none⟩ = some (.int .i64 0) := (blk_cell BK560.out 5).trans rfl; have hfz2_0 := blk_frozen BK560.out 0; have hfz2_1 := blk_frozen BK560.out 1; have hfz2_2 := blk_frozen BK560.out 2; have hfz2_3 := blk_frozen BK560.out 3; have hfz2_4 := blk_frozen BK560.out 4; have hfz2_5 := blk_frozen BK560.out 5))
 refine bodyPost_ret (results_cell_row rfl _ _ gb560 72 #[.bool false, .bool false, .int .i64 64, .int .i64 4, .int .i64 20, .int .i64 5] (0, 0) _ rfl (by (with_reducible repeat (first | refine blk_drewN ?_ _ | refine blk_drew ?_ | refine blk_alloc ?_ _)); refine blk_put (cs := #[.bool false, .bool false, .int .i64 64, .int .i64 4, .int .i64 20, .int .i64 0]) ?_ 5 _ rfl; (with_reducible repeat (first | refine blk_drewN ?_ _ | refine blk_drew ?_ | refine blk_alloc ?_ _)); refine blk_put (cs := #[.bool false, .bool false, .int .i64 64, .int .i64 4, .int .i64 0, .int .i64 0]) ?_ 4 _ rfl; (with_reducible repeat (first | refine blk_drewN ?_ _ | refine blk_drew ?_ | refine blk_alloc ?_ _)); refine blk_put (cs := #[.bool false, .bool false, .int .i64 64, .int .i64 0, .int .i64 0, .int .i64 0]) ?_ 3 _ rfl; (with_reducible repeat (first | refine blk_drewN ?_ _ | refine blk_drew ?_ | refine blk_alloc ?_ _)); refine blk_put (cs := #[.bool false, .bool false, .int .i64 0, .int .i64 0, .int .i64 0, .int .i64 0]) ?_ 2 _ rfl; (with_reducible repeat (first | refine blk_drewN ?_ _ | refine blk_drew ?_ | refine blk_alloc ?_ _)); refine blk_put (cs := #[.bool false, .bool false, .int .i64 0, .int .i64 0, .int .i64 0, .int .i64 0]) ?_ 1 _ rfl; (with_reducible repeat (first | refine blk_drewN ?_ _ | refine blk_drew ?_ | refine blk_alloc ?_ _)); refine blk_put (cs := #[.bool false, .bool false, .int .i64 0, .int .i64 0, .int .i64 0, .int .i64 0]) ?_ 0 _ rfl; (with_reducible repeat (first | refine blk_drewN ?_ _ | refine blk_drew ?_ | refine blk_alloc ?_ _)); exact BK560.out) Tryd.underlying72 rfl (by kernel_rfl)) rfl ?_
 exact ⟨by first | rfl | (simp [errW_none, errW_some] <;> rfl) | (simp [*, errW_none, errW_some] <;> rfl), by repeat (first | (with_reducible first | exact HB.out | apply below_alloc | apply pw_below_drewN | apply below_drew1 | refine below_set ?_ GE560.out) | exact HB.out)⟩

end Go.Proofs.YtpmieapgbdbabaaDoor.QAll
end

section
/- Walks, written by a program of this session (wip/pp): a Go function comes to what the Lean function beside it tells. -/
namespace Go.Proofs.YtpmieapgbdbabaaDoor.QAll
open Go.RowKit Go.Proofs.YtpmieapgbdbabaaDoorW.PrintWords Go.Proofs.YtpmieapgbdbabaaDoorW.PrintLast Go.Proofs.YtpmieapgbdbabaaDoorW.PrintMore
attribute [local go_sem] max2_int min2_int max_two min_two max_three min_three max_four min_four
set_option linter.unusedVariables false
set_option linter.unusedSimpArgs false

def squelchlaw08_awake.f (k : Nat)  : Option (Bool) := (xid_Usual.f).bind fun bt561 => ((xid_Put.f k bt561.1 bt561.2.1 bt561.2.2.1 bt561.2.2.2.1 bt561.2.2.2.2.1 bt561.2.2.2.2.2).bind fun bt567 => (if bt567.2 = 0 then (if (bt567.1.size : Int) = 21 then (if 3 < (bt567.1.size : Int) then (if (bt bt567.1 3) = 17 then ((xid_Usual.f).bind fun bt569 => (some (bt569.2.2.2.1 == 4))) else (some false)) else (none)) else (some false)) else (some false)))
set_option maxHeartbeats 8000000 in
set_option maxRecDepth 100000 in
theorem squelchlaw08_awake.calls (k : Nat)  (r : Bool) (w : World) (h : squelchlaw08_awake.f k  = some r) :
  Calls Tryd.prog 46 #[] w fun e w' => e = .returned (.bool r) ∧ Below w.heap.size w w' := by
 have hu72 := Tryd.underlying72
 have hfd72_3 : ∀ (y0_ y1_ y2_ y3_ y4_ y5_ : Value) (W : World), (Instr.field 72 (.agg #[y0_, y1_, y2_, y3_, y4_, y5_]) 3).run Tryd.prog W = .ok (y3_) W := fun y0_ y1_ y2_ y3_ y4_ y5_ W => by kernel_rfl
 have HB := Aside0.mk (Below.refl w.heap.size w)
 have H : ((xid_Usual.f).bind fun bt561 => ((xid_Put.f k bt561.1 bt561.2.1 bt561.2.2.1 bt561.2.2.2.1 bt561.2.2.2.2.1 bt561.2.2.2.2.2).bind fun bt567 => (if bt567.2 = 0 then (if (bt567.1.size : Int) = 21 then (if 3 < (bt567.1.size : Int) then (if (bt bt567.1 3) = 17 then ((xid_Usual.f).bind fun bt569 => (some (bt569.2.2.2.1 == 4))) else (some false)) else (none)) else (some false)) else (some false)))) = some r := h
 clear h
 replace H := Option.bind_eq_some_iff.mp H
 obtain ⟨⟨t561, t562, t563, t564, t565, t566⟩, A10, H⟩ := H
 replace H : ((xid_Put.f k t561 t562 t563 t564 t565 t566).bind fun bt567 => (if bt567.2 = 0 then (if (bt567.1.size : Int) = 21 then (if 3 < (bt567.1.size : Int) then (if (bt bt567.1 3) = 17 then ((xid_Usual.f).bind fun bt569 => (some (bt569.2.2.2.1 == 4))) else (some false)) else (none)) else (some false)) else (some false))) = some r := H
 have A1 := Aside0.mk A10
 clear A10
 replace H := Option.bind_eq_some_iff.mp H
 obtain ⟨⟨t567, t568⟩, A20, H⟩ := H
 replace H : (if t568 = 0 then (if (t567.size : Int) = 21 then (if 3 < (t567.size : Int) then (if (bt t567 3) = 17 then ((xid_Usual.f).bind fun bt569 => (some (bt569.2.2.2.1 == 4))) else (some false)) else (none)) else (some false)) else (some false)) = some r := H
 have A2 := Aside0.mk A20
 clear A20
 by_cases c3 : t568 = 0
 ·rw [if_pos c3] at H
  have c3b0 : (t568 == 0) = true := beq_iff_eq.mpr c3
  have c3b1 : (t568 != 0) = false := bne_eq_false_iff_eq.mpr c3
  clear c3
  by_cases c4 : (t567.size : Int) = 21
  ·rw [if_pos c4] at H
   have c4b0 : ((t567.size : Int) == 21) = true := beq_iff_eq.mpr c4
   have c4b1 : ((t567.size : Int) != 21) = false := bne_eq_false_iff_eq.mpr c4
   clear c4
   by_cases c5 : 3 < (t567.size : Int)
   ·rw [if_pos c5] at H
    have c5b0 : decide (3 < (t567.size : Int)) = true := decide_eq_true c5
    have c5b1 : decide (3 < t567.size) = true := decide_eq_true (by omega)
    clear c5
    by_cases c7 : (bt t567 3) = 17
    ·rw [if_pos c7] at H
     have c7b0 : ((bt t567 3) == 17) = true := beq_iff_eq.mpr c7
     have c7b1 : ((bt t567 3) != 17) = false := bne_eq_false_iff_eq.mpr c7
     clear c7
     replace H := Option.bind_eq_some_iff.mp H
     obtain ⟨⟨t569, t570, t571, t572, t573, t574⟩, A80, H⟩ := H
     replace H : (some (t572 == 4)) = some r := H
     have A8 := Aside0.mk A80
     clear A80
     obtain rfl := Option.some.inj H
     go_enter Tryd.func46, Tryd.ntmps46
     go_wp2_with (first | ((with_reducible refine gate_callee (f := 75) rfl ?_); refine goesL_ (some 4) rfl rfl Tryd.func75 (by kernel_rfl) rfl #[] rfl (by (try simp only [List.map_toArray, List.map_cons, List.map_nil]); first | done | rfl | (simp only [List.length_drop, List.length_take]; rfl)) ?_; (with_reducible refine (xid_Usual.calls  t561 t562 t563 t564 t565 t566 _ A1.out).mono ?_); rintro e w9 ⟨rfl, hb⟩; refine ⟨_, rfl, ?_⟩; have n0_ := Aside0.mk (below_step (by repeat (first | (with_reducible first | exact HB.out | apply below_alloc | apply pw_below_drewN | apply below_drew1) | exact HB.out)) hb); clear HB; have HB := n0_; clear n0_; (try clear hb); (try clear hb2); (try clear hk); (try clear hi)) | ((with_reducible refine gate_callee (f := 74) rfl ?_); refine goesL_ (some 5) rfl rfl Tryd.func74 (by kernel_rfl) rfl #[.agg #[.bool t561, .bool t562, .int .i64 t563, .int .i64 t564, .int .i64 t565, .int .i64 t566]] rfl (by (try simp only [List.map_toArray, List.map_cons, List.map_nil]); first | done | rfl | (simp only [List.length_drop, List.length_take]; rfl)) ?_; (with_reducible refine (xid_Put.calls k t561 t562 t563 t564 t565 t566 t567 t568 _ A2.out).mono ?_); rintro e w10 ⟨rfl, hb⟩; refine ⟨_, rfl, ?_⟩; have n0_ := Aside0.mk (below_step (by repeat (first | (with_reducible first | exact HB.out | apply below_alloc | apply pw_below_drewN | apply below_drew1) | exact HB.out)) hb); clear HB; have HB := n0_; clear n0_; (try clear hb); (try clear hb2); (try clear hk); (try clear hi); have p6 : 0 ≤ (3 : Int) := (by omega); have q6 : 3 < t567.size := (by have : (3 : Int) < (t567.size : Int) := of_decide_eq_true (by first | (with_reducible assumption) | assumption); omega); have hx6 : ∀ h : 3 < t567.size, ((t567[3]'h).toNat : Int) = bt t567 3 := bt_at t567 3; clear p6; have qi6 : (3 < (t567.size : Int)) = True := eq_true (of_decide_eq_true (by first | (with_reducible assumption) | assumption)); replace q6 := eq_true q6) | (go_at_call 75; (with_reducible refine (xid_Usual.calls  t569 t570 t571 t572 t573 t574 _ A8.out).mono ?_); rintro e w11 ⟨rfl, hb⟩; have n0_ := Aside0.mk (below_step (by repeat (first | (with_reducible first | exact HB.out | apply below_alloc | apply pw_below_drewN | apply below_drew1) | exact HB.out)) hb); clear HB; have HB := n0_; clear n0_; (try clear hb); (try clear hb2); (try clear hk); (try clear hi)))
     go_ret
     exact ⟨by first | rfl | (simp [errW_none, errW_some] <;> rfl) | (simp [*, errW_none, errW_some] <;> rfl), by repeat (first | (with_reducible first | exact HB.out | apply below_alloc | apply pw_below_drewN | apply below_drew1) | exact HB.out)⟩
    ·rw [if_neg c7] at H
     have c7b0 : ((bt t567 3) == 17) = false := beq_eq_false_iff_ne.mpr c7
     have c7b1 : ((bt t567 3) != 17) = true := bne_iff_ne.mpr c7
     obtain rfl := Option.some.inj H
     go_enter Tryd.func46, Tryd.ntmps46
     go_wp2_with (first | ((with_reducible refine gate_callee (f := 75) rfl ?_); refine goesL_ (some 4) rfl rfl Tryd.func75 (by kernel_rfl) rfl #[] rfl (by (try simp only [List.map_toArray, List.map_cons, List.map_nil]); first | done | rfl | (simp only [List.length_drop, List.length_take]; rfl)) ?_; (with_reducible refine (xid_Usual.calls  t561 t562 t563 t564 t565 t566 _ A1.out).mono ?_); rintro e w12 ⟨rfl, hb⟩; refine ⟨_, rfl, ?_⟩; have n0_ := Aside0.mk (below_step (by repeat (first | (with_reducible first | exact HB.out | apply below_alloc | apply pw_below_drewN | apply below_drew1) | exact HB.out)) hb); clear HB; have HB := n0_; clear n0_; (try clear hb); (try clear hb2); (try clear hk); (try clear hi)) | ((with_reducible refine gate_callee (f := 74) rfl ?_); refine goesL_ (some 5) rfl rfl Tryd.func74 (by kernel_rfl) rfl #[.agg #[.bool t561, .bool t562, .int .i64 t563, .int .i64 t564, .int .i64 t565, .int .i64 t566]] rfl (by (try simp only [List.map_toArray, List.map_cons, List.map_nil]); first | done | rfl | (simp only [List.length_drop, List.length_take]; rfl)) ?_; (with_reducible refine (xid_Put.calls k t561 t562 t563 t564 t565 t566 t567 t568 _ A2.out).mono ?_); rintro e w13 ⟨rfl, hb⟩; refine ⟨_, rfl, ?_⟩; have n0_ := Aside0.mk (below_step (by repeat (first | (with_reducible first | exact HB.out | apply below_alloc | apply pw_below_drewN | apply below_drew1) | exact HB.out)) hb); clear HB; have HB := n0_; clear n0_; (try clear hb); (try clear hb2); (try clear hk); (try clear hi); have p6 : 0 ≤ (3 : Int) := (by omega); have q6 : 3 < t567.size := (by have : (3 : Int) < (t567.size : Int) := of_decide_eq_true (by first | (with_reducible assumption) | assumption); omega); have hx6 : ∀ h : 3 < t567.size, ((t567[3]'h).toNat : Int) = bt t567 3 := bt_at t567 3; clear p6; have qi6 : (3 < (t567.size : Int)) = True := eq_true (of_decide_eq_true (by first | (with_reducible assumption) | assumption)); replace q6 := eq_true q6))
     go_ret
     exact ⟨by first | rfl | (simp [errW_none, errW_some] <;> rfl) | (simp [*, errW_none, errW_some] <;> rfl), by repeat (first | (with_reducible first | exact HB.out | apply below_alloc | apply pw_below_drewN | apply below_drew1) | exact HB.out)⟩
   ·rw [if_neg c5] at H
    exact absurd H (by simp)
  ·rw [if_neg c4] at H
   have c4b0 : ((t567.size : Int) == 21) = false := beq_eq_false_iff_ne.mpr c4
   have c4b1 : ((t567.size : Int) != 21) = true := bne_iff_ne.mpr c4
   obtain rfl := Option.some.inj H
   go_enter Tryd.func46, Tryd.ntmps46
   go_wp2_with (first | ((with_reducible refine gate_callee (f := 75) rfl ?_); refine goesL_ (some 4) rfl rfl Tryd.func75 (by kernel_rfl) rfl #[] rfl (by (try simp only [List.map_toArray, List.map_cons, List.map_nil]); first | done | rfl | (simp only [List.length_drop, List.length_take]; rfl)) ?_; (with_reducible refine (xid_Usual.calls  t561 t562 t563 t564 t565 t566 _ A1.out).mono ?_); rintro e w14 ⟨rfl, hb⟩; refine ⟨_, rfl, ?_⟩; have n0_ := Aside0.mk (below_step (by repeat (first | (with_reducible first | exact HB.out | apply below_alloc | apply pw_below_drewN | apply below_drew1) | exact HB.out)) hb); clear HB; have HB := n0_; clear n0_; (try clear hb); (try clear hb2); (try clear hk); (try clear hi)) | ((with_reducible refine gate_callee (f := 74) rfl ?_); refine goesL_ (some 5) rfl rfl Tryd.func74 (by kernel_rfl) rfl #[.agg #[.bool t561, .bool t562, .int .i64 t563, .int .i64 t564, .int .i64 t565, .int .i64 t566]] rfl (by (try simp only [List.map_toArray, List.map_cons, List.map_nil]); first | done | rfl | (simp only [List.length_drop, List.length_take]; rfl)) ?_; (with_reducible refine (xid_Put.calls k t561 t562 t563 t564 t565 t566 t567 t568 _ A2.out).mono ?_); rintro e w15 ⟨rfl, hb⟩; refine ⟨_, rfl, ?_⟩; have n0_ := Aside0.mk (below_step (by repeat (first | (with_reducible first | exact HB.out | apply below_alloc | apply pw_below_drewN | apply below_drew1) | exact HB.out)) hb); clear HB; have HB := n0_; clear n0_; (try clear hb); (try clear hb2); (try clear hk); (try clear hi)))
   go_ret
   exact ⟨by first | rfl | (simp [errW_none, errW_some] <;> rfl) | (simp [*, errW_none, errW_some] <;> rfl), by repeat (first | (with_reducible first | exact HB.out | apply below_alloc | apply pw_below_drewN | apply below_drew1) | exact HB.out)⟩
 ·rw [if_neg c3] at H
  have c3b0 : (t568 == 0) = false := beq_eq_false_iff_ne.mpr c3
  have c3b1 : (t568 != 0) = true := bne_iff_ne.mpr c3
  obtain rfl := Option.some.inj H
  go_enter Tryd.func46, Tryd.ntmps46
  go_wp2_with (first | ((with_reducible refine gate_callee (f := 75) rfl ?_); refine goesL_ (some 4) rfl rfl Tryd.func75 (by kernel_rfl) rfl #[] rfl (by (try simp only [List.map_toArray, List.map_cons, List.map_nil]); first | done | rfl | (simp only [List.length_drop, List.length_take]; rfl)) ?_; (with_reducible refine (xid_Usual.calls  t561 t562 t563 t564 t565 t566 _ A1.out).mono ?_); rintro e w16 ⟨rfl, hb⟩; refine ⟨_, rfl, ?_⟩; have n0_ := Aside0.mk (below_step (by repeat (first | (with_reducible first | exact HB.out | apply below_alloc | apply pw_below_drewN | apply below_drew1) | exact HB.out)) hb); clear HB; have HB := n0_; clear n0_; (try clear hb); (try clear hb2); (try clear hk); (try clear hi)) | ((with_reducible refine gate_callee (f := 74) rfl ?_); refine goesL_ (some 5) rfl rfl Tryd.func74 (by kernel_rfl) rfl #[.agg #[.bool t561, .bool t562, .int .i64 t563, .int .i64 t564, .int .i64 t565, .int .i64 t566]] rfl (by (try simp only [List.map_toArray, List.map_cons, List.map_nil]); first | done | rfl | (simp only [List.length_drop, List.length_take]; rfl)) ?_; (with_reducible refine (xid_Put.calls k t561 t562 t563 t564 t565 t566 t567 t568 _ A2.out).mono ?_); rintro e w17 ⟨rfl, hb⟩; refine ⟨_, rfl, ?_⟩; have n0_ := Aside0.mk (below_step (by repeat (first | (with_reducible first | exact HB.out | apply below_alloc | apply pw_below_drewN | apply below_drew1) | exact HB.out)) hb); clear HB; have HB := n0_; clear n0_; (try clear hb); (try clear hb2); (try clear hk); (try clear hi)))
  go_ret
  exact ⟨by first | rfl | (simp [errW_none, errW_some] <;> rfl) | (simp [*, errW_none, errW_some] <;> rfl), by repeat (first | (with_reducible first | exact HB.out | apply below_alloc | apply pw_below_drewN | apply below_drew1) | exact HB.out)⟩

end Go.Proofs.YtpmieapgbdbabaaDoor.QAll
end

section
/- Walks, written by a program of this session (wip/pp): a Go function comes to what the Lean function beside it tells. -/
namespace Go.Proofs.YtpmieapgbdbabaaDoor.QAll
open Go.RowKit Go.Proofs.YtpmieapgbdbabaaDoorW.PrintWords Go.Proofs.YtpmieapgbdbabaaDoorW.PrintLast Go.Proofs.YtpmieapgbdbabaaDoorW.PrintMore
attribute [local go_sem] max2_int min2_int max_two min_two max_three min_three max_four min_four
set_option linter.unusedVariables false
set_option linter.unusedSimpArgs false

def squelchref08_digits.f (a0 : Int) : Option (ByteArray) := if 0 ≤ (Int.tmod a0 10) then (if (Int.tmod a0 10) ≤ (wrap64 ((Int.tmod a0 10) + 1)) then (if (wrap64 ((Int.tmod a0 10) + 1)) ≤ 10 then (if a0 ≥ 10 then (if 0 ≤ (Int.tmod (wrap64 (Int.tdiv a0 10)) 10) then (if (Int.tmod (wrap64 (Int.tdiv a0 10)) 10) ≤ (wrap64 ((Int.tmod (wrap64 (Int.tdiv a0 10)) 10) + 1)) then (if (wrap64 ((Int.tmod (wrap64 (Int.tdiv a0 10)) 10) + 1)) ≤ 10 then (if ((⟨#[48, 49, 50, 51, 52, 53, 54, 55, 56, 57]⟩ : ByteArray).extract ((Int.tmod (wrap64 (Int.tdiv a0 10)) 10) : Int).toNat ((wrap64 ((Int.tmod (wrap64 (Int.tdiv a0 10)) 10) + 1)) : Int).toNat).size + ((⟨#[48, 49, 50, 51, 52, 53, 54, 55, 56, 57]⟩ : ByteArray).extract ((Int.tmod a0 10) : Int).toNat ((wrap64 ((Int.tmod a0 10) + 1)) : Int).toNat).size ≤ 9223372036854775807 then (if a0 ≥ 100 then (if 0 ≤ (wrap64 (Int.tdiv a0 100)) then (if (wrap64 (Int.tdiv a0 100)) ≤ (wrap64 ((wrap64 (Int.tdiv a0 100)) + 1)) then (if (wrap64 ((wrap64 (Int.tdiv a0 100)) + 1)) ≤ 10 then (if ((⟨#[48, 49, 50, 51, 52, 53, 54, 55, 56, 57]⟩ : ByteArray).extract ((wrap64 (Int.tdiv a0 100)) : Int).toNat ((wrap64 ((wrap64 (Int.tdiv a0 100)) + 1)) : Int).toNat).size + (((⟨#[48, 49, 50, 51, 52, 53, 54, 55, 56, 57]⟩ : ByteArray).extract ((Int.tmod (wrap64 (Int.tdiv a0 10)) 10) : Int).toNat ((wrap64 ((Int.tmod (wrap64 (Int.tdiv a0 10)) 10) + 1)) : Int).toNat) ++ ((⟨#[48, 49, 50, 51, 52, 53, 54, 55, 56, 57]⟩ : ByteArray).extract ((Int.tmod a0 10) : Int).toNat ((wrap64 ((Int.tmod a0 10) + 1)) : Int).toNat)).size ≤ 9223372036854775807 then (some (((⟨#[48, 49, 50, 51, 52, 53, 54, 55, 56, 57]⟩ : ByteArray).extract ((wrap64 (Int.tdiv a0 100)) : Int).toNat ((wrap64 ((wrap64 (Int.tdiv a0 100)) + 1)) : Int).toNat) ++ (((⟨#[48, 49, 50, 51, 52, 53, 54, 55, 56, 57]⟩ : ByteArray).extract ((Int.tmod (wrap64 (Int.tdiv a0 10)) 10) : Int).toNat ((wrap64 ((Int.tmod (wrap64 (Int.tdiv a0 10)) 10) + 1)) : Int).toNat) ++ ((⟨#[48, 49, 50, 51, 52, 53, 54, 55, 56, 57]⟩ : ByteArray).extract ((Int.tmod a0 10) : Int).toNat ((wrap64 ((Int.tmod a0 10) + 1)) : Int).toNat)))) else (none)) else (none)) else (none)) else (none)) else (some (((⟨#[48, 49, 50, 51, 52, 53, 54, 55, 56, 57]⟩ : ByteArray).extract ((Int.tmod (wrap64 (Int.tdiv a0 10)) 10) : Int).toNat ((wrap64 ((Int.tmod (wrap64 (Int.tdiv a0 10)) 10) + 1)) : Int).toNat) ++ ((⟨#[48, 49, 50, 51, 52, 53, 54, 55, 56, 57]⟩ : ByteArray).extract ((Int.tmod a0 10) : Int).toNat ((wrap64 ((Int.tmod a0 10) + 1)) : Int).toNat)))) else (none)) else (none)) else (none)) else (none)) else (if a0 ≥ 100 then (if 0 ≤ (wrap64 (Int.tdiv a0 100)) then (if (wrap64 (Int.tdiv a0 100)) ≤ (wrap64 ((wrap64 (Int.tdiv a0 100)) + 1)) then (if (wrap64 ((wrap64 (Int.tdiv a0 100)) + 1)) ≤ 10 then (if ((⟨#[48, 49, 50, 51, 52, 53, 54, 55, 56, 57]⟩ : ByteArray).extract ((wrap64 (Int.tdiv a0 100)) : Int).toNat ((wrap64 ((wrap64 (Int.tdiv a0 100)) + 1)) : Int).toNat).size + ((⟨#[48, 49, 50, 51, 52, 53, 54, 55, 56, 57]⟩ : ByteArray).extract ((Int.tmod a0 10) : Int).toNat ((wrap64 ((Int.tmod a0 10) + 1)) : Int).toNat).size ≤ 9223372036854775807 then (some (((⟨#[48, 49, 50, 51, 52, 53, 54, 55, 56, 57]⟩ : ByteArray).extract ((wrap64 (Int.tdiv a0 100)) : Int).toNat ((wrap64 ((wrap64 (Int.tdiv a0 100)) + 1)) : Int).toNat) ++ ((⟨#[48, 49, 50, 51, 52, 53, 54, 55, 56, 57]⟩ : ByteArray).extract ((Int.tmod a0 10) : Int).toNat ((wrap64 ((Int.tmod a0 10) + 1)) : Int).toNat))) else (none)) else (none)) else (none)) else (none)) else (some ((⟨#[48, 49, 50, 51, 52, 53, 54, 55, 56, 57]⟩ : ByteArray).extract ((Int.tmod a0 10) : Int).toNat ((wrap64 ((Int.tmod a0 10) + 1)) : Int).toNat)))) else (none)) else (none)) else (none)
set_option maxHeartbeats 8000000 in
set_option maxRecDepth 100000 in
theorem squelchref08_digits.calls (a0 : Int) (r : ByteArray) (w : World) (h : squelchref08_digits.f a0 = some r) :
  Calls Tryd.prog 80 #[.int .i64 a0] w fun e w' => e = .returned (.string r) ∧ Drawn0 w w' := by
 have H : (if 0 ≤ (Int.tmod a0 10) then (if (Int.tmod a0 10) ≤ (wrap64 ((Int.tmod a0 10) + 1)) then (if (wrap64 ((Int.tmod a0 10) + 1)) ≤ 10 then (if a0 ≥ 10 then (if 0 ≤ (Int.tmod (wrap64 (Int.tdiv a0 10)) 10) then (if (Int.tmod (wrap64 (Int.tdiv a0 10)) 10) ≤ (wrap64 ((Int.tmod (wrap64 (Int.tdiv a0 10)) 10) + 1)) then (if (wrap64 ((Int.tmod (wrap64 (Int.tdiv a0 10)) 10) + 1)) ≤ 10 then (if ((⟨#[48, 49, 50, 51, 52, 53, 54, 55, 56, 57]⟩ : ByteArray).extract ((Int.tmod (wrap64 (Int.tdiv a0 10)) 10) : Int).toNat ((wrap64 ((Int.tmod (wrap64 (Int.tdiv a0 10)) 10) + 1)) : Int).toNat).size + ((⟨#[48, 49, 50, 51, 52, 53, 54, 55, 56, 57]⟩ : ByteArray).extract ((Int.tmod a0 10) : Int).toNat ((wrap64 ((Int.tmod a0 10) + 1)) : Int).toNat).size ≤ 9223372036854775807 then (if a0 ≥ 100 then (if 0 ≤ (wrap64 (Int.tdiv a0 100)) then (if (wrap64 (Int.tdiv a0 100)) ≤ (wrap64 ((wrap64 (Int.tdiv a0 100)) + 1)) then (if (wrap64 ((wrap64 (Int.tdiv a0 100)) + 1)) ≤ 10 then (if ((⟨#[48, 49, 50, 51, 52, 53, 54, 55, 56, 57]⟩ : ByteArray).extract ((wrap64 (Int.tdiv a0 100)) : Int).toNat ((wrap64 ((wrap64 (Int.tdiv a0 100)) + 1)) : Int).toNat).size + (((⟨#[48, 49, 50, 51, 52, 53, 54, 55, 56, 57]⟩ : ByteArray).extract ((Int.tmod (wrap64 (Int.tdiv a0 10)) 10) : Int).toNat ((wrap64 ((Int.tmod (wrap64 (Int.tdiv a0 10)) 10) + 1)) : Int).toNat) ++ ((⟨#[48, 49, 50, 51, 52, 53, 54, 55, 56, 57]⟩ : ByteArray).extract ((Int.tmod a0 10) : Int).toNat ((wrap64 ((Int.tmod a0 10) + 1)) : Int).toNat)).size ≤ 9223372036854775807 then (some (((⟨#[48, 49, 50, 51, 52, 53, 54, 55, 56, 57]⟩ : ByteArray).extract ((wrap64 (Int.tdiv a0 100)) : Int).toNat ((wrap64 ((wrap64 (Int.tdiv a0 100)) + 1)) : Int).toNat) ++ (((⟨#[48, 49, 50, 51, 52, 53, 54, 55, 56, 57]⟩ : ByteArray).extract ((Int.tmod (wrap64 (Int.tdiv a0 10)) 10) : Int).toNat ((wrap64 ((Int.tmod (wrap64 (Int.tdiv a0 10)) 10) + 1)) : Int).toNat) ++ ((⟨#[48, 49, 50, 51, 52, 53, 54, 55, 56, 57]⟩ : ByteArray).extract ((Int.tmod a0 10) : Int).toNat ((wrap64 ((Int.tmod a0 10) + 1)) : Int).toNat)))) else (none)) else (none)) else (none)) else (none)) else (some (((⟨#[48, 49, 50, 51, 52, 53, 54, 55, 56, 57]⟩ : ByteArray).extract ((Int.tmod (wrap64 (Int.tdiv a0 10)) 10) : Int).toNat ((wrap64 ((Int.tmod (wrap64 (Int.tdiv a0 10)) 10) + 1)) : Int).toNat) ++ ((⟨#[48, 49, 50, 51, 52, 53, 54, 55, 56, 57]⟩ : ByteArray).extract ((Int.tmod a0 10) : Int).toNat ((wrap64 ((Int.tmod a0 10) + 1)) : Int).toNat)))) else (none)) else (none)) else (none)) else (none)) else (if a0 ≥ 100 then (if 0 ≤ (wrap64 (Int.tdiv a0 100)) then (if (wrap64 (Int.tdiv a0 100)) ≤ (wrap64 ((wrap64 (Int.tdiv a0 100)) + 1)) then (if (wrap64 ((wrap64 (Int.tdiv a0 100)) + 1)) ≤ 10 then (if ((⟨#[48, 49, 50, 51, 52, 53, 54, 55, 56, 57]⟩ : ByteArray).extract ((wrap64 (Int.tdiv a0 100)) : Int).toNat ((wrap64 ((wrap64 (Int.tdiv a0 100)) + 1)) : Int).toNat).size + ((⟨#[48, 49, 50, 51, 52, 53, 54, 55, 56, 57]⟩ : ByteArray).extract ((Int.tmod a0 10) : Int).toNat ((wrap64 ((Int.tmod a0 10) + 1)) : Int).toNat).size ≤ 9223372036854775807 then (some (((⟨#[48, 49, 50, 51, 52, 53, 54, 55, 56, 57]⟩ : ByteArray).extract ((wrap64 (Int.tdiv a0 100)) : Int).toNat ((wrap64 ((wrap64 (Int.tdiv a0 100)) + 1)) : Int).toNat) ++ ((⟨#[48, 49, 50, 51, 52, 53, 54, 55, 56, 57]⟩ : ByteArray).extract ((Int.tmod a0 10) : Int).toNat ((wrap64 ((Int.tmod a0 10) + 1)) : Int).toNat))) else (none)) else (none)) else (none)) else (none)) else (some ((⟨#[48, 49, 50, 51, 52, 53, 54, 55, 56, 57]⟩ : ByteArray).extract ((Int.tmod a0 10) : Int).toNat ((wrap64 ((Int.tmod a0 10) + 1)) : Int).toNat)))) else (none)) else (none)) else (none)) = some r := h
 clear h
 obtain ⟨ji2, hji2⟩ : ∃ j_ : Int, (Int.tmod a0 10) = j_ := ⟨_, rfl⟩
 replace H : (if 0 ≤ (ji2) then (if (ji2) ≤ (wrap64 ((ji2) + 1)) then (if (wrap64 ((ji2) + 1)) ≤ 10 then (if a0 ≥ 10 then (if 0 ≤ (Int.tmod (wrap64 (Int.tdiv a0 10)) 10) then (if (Int.tmod (wrap64 (Int.tdiv a0 10)) 10) ≤ (wrap64 ((Int.tmod (wrap64 (Int.tdiv a0 10)) 10) + 1)) then (if (wrap64 ((Int.tmod (wrap64 (Int.tdiv a0 10)) 10) + 1)) ≤ 10 then (if ((⟨#[48, 49, 50, 51, 52, 53, 54, 55, 56, 57]⟩ : ByteArray).extract ((Int.tmod (wrap64 (Int.tdiv a0 10)) 10) : Int).toNat ((wrap64 ((Int.tmod (wrap64 (Int.tdiv a0 10)) 10) + 1)) : Int).toNat).size + ((⟨#[48, 49, 50, 51, 52, 53, 54, 55, 56, 57]⟩ : ByteArray).extract ((ji2) : Int).toNat ((wrap64 ((ji2) + 1)) : Int).toNat).size ≤ 9223372036854775807 then (if a0 ≥ 100 then (if 0 ≤ (wrap64 (Int.tdiv a0 100)) then (if (wrap64 (Int.tdiv a0 100)) ≤ (wrap64 ((wrap64 (Int.tdiv a0 100)) + 1)) then (if (wrap64 ((wrap64 (Int.tdiv a0 100)) + 1)) ≤ 10 then (if ((⟨#[48, 49, 50, 51, 52, 53, 54, 55, 56, 57]⟩ : ByteArray).extract ((wrap64 (Int.tdiv a0 100)) : Int).toNat ((wrap64 ((wrap64 (Int.tdiv a0 100)) + 1)) : Int).toNat).size + (((⟨#[48, 49, 50, 51, 52, 53, 54, 55, 56, 57]⟩ : ByteArray).extract ((Int.tmod (wrap64 (Int.tdiv a0 10)) 10) : Int).toNat ((wrap64 ((Int.tmod (wrap64 (Int.tdiv a0 10)) 10) + 1)) : Int).toNat) ++ ((⟨#[48, 49, 50, 51, 52, 53, 54, 55, 56, 57]⟩ : ByteArray).extract ((ji2) : Int).toNat ((wrap64 ((ji2) + 1)) : Int).toNat)).size ≤ 9223372036854775807 then (some (((⟨#[48, 49, 50, 51, 52, 53, 54, 55, 56, 57]⟩ : ByteArray).extract ((wrap64 (Int.tdiv a0 100)) : Int).toNat ((wrap64 ((wrap64 (Int.tdiv a0 100)) + 1)) : Int).toNat) ++ (((⟨#[48, 49, 50, 51, 52, 53, 54, 55, 56, 57]⟩ : ByteArray).extract ((Int.tmod (wrap64 (Int.tdiv a0 10)) 10) : Int).toNat ((wrap64 ((Int.tmod (wrap64 (Int.tdiv a0 10)) 10) + 1)) : Int).toNat) ++ ((⟨#[48, 49, 50, 51, 52, 53, 54, 55, 56, 57]⟩ : ByteArray).extract ((ji2) : Int).toNat ((wrap64 ((ji2) + 1)) : Int).toNat)))) else (none)) else (none)) else (none)) else (none)) else (some (((⟨#[48, 49, 50, 51, 52, 53, 54, 55, 56, 57]⟩ : ByteArray).extract ((Int.tmod (wrap64 (Int.tdiv a0 10)) 10) : Int).toNat ((wrap64 ((Int.tmod (wrap64 (Int.tdiv a0 10)) 10) + 1)) : Int).toNat) ++ ((⟨#[48, 49, 50, 51, 52, 53, 54, 55, 56, 57]⟩ : ByteArray).extract ((ji2) : Int).toNat ((wrap64 ((ji2) + 1)) : Int).toNat)))) else (none)) else (none)) else (none)) else (none)) else (if a0 ≥ 100 then (if 0 ≤ (wrap64 (Int.tdiv a0 100)) then (if (wrap64 (Int.tdiv a0 100)) ≤ (wrap64 ((wrap64 (Int.tdiv a0 100)) + 1)) then (if (wrap64 ((wrap64 (Int.tdiv a0 100)) + 1)) ≤ 10 then (if ((⟨#[48, 49, 50, 51, 52, 53, 54, 55, 56, 57]⟩ : ByteArray).extract ((wrap64 (Int.tdiv a0 100)) : Int).toNat ((wrap64 ((wrap64 (Int.tdiv a0 100)) + 1)) : Int).toNat).size + ((⟨#[48, 49, 50, 51, 52, 53, 54, 55, 56, 57]⟩ : ByteArray).extract ((ji2) : Int).toNat ((wrap64 ((ji2) + 1)) : Int).toNat).size ≤ 9223372036854775807 then (some (((⟨#[48, 49, 50, 51, 52, 53, 54, 55, 56, 57]⟩ : ByteArray).extract ((wrap64 (Int.tdiv a0 100)) : Int).toNat ((wrap64 ((wrap64 (Int.tdiv a0 100)) + 1)) : Int).toNat) ++ ((⟨#[48, 49, 50, 51, 52, 53, 54, 55, 56, 57]⟩ : ByteArray).extract ((ji2) : Int).toNat ((wrap64 ((ji2) + 1)) : Int).toNat))) else (none)) else (none)) else (none)) else (none)) else (some ((⟨#[48, 49, 50, 51, 52, 53, 54, 55, 56, 57]⟩ : ByteArray).extract ((ji2) : Int).toNat ((wrap64 ((ji2) + 1)) : Int).toNat)))) else (none)) else (none)) else (none)) = some r := by first | (rw [hji2] at H; exact H) | (simp only [hji2] at H ⊢; exact H)
 by_cases c3 : 0 ≤ (ji2)
 ·rw [if_pos c3] at H
  have c3b0 := eq_true c3
  have c3b1 : decide (0 ≤ (ji2)) = true := decide_eq_true c3
  clear c3
  by_cases c4 : (ji2) ≤ (wrap64 ((ji2) + 1))
  ·rw [if_pos c4] at H
   have c4b0 := eq_true c4
   have c4b1 : decide ((ji2) ≤ (wrap64 ((ji2) + 1))) = true := decide_eq_true c4
   by_cases c5 : (wrap64 ((ji2) + 1)) ≤ 10
   ·rw [if_pos c5] at H
    have c5b0 := eq_true c5
    have c5b1 : decide ((wrap64 ((ji2) + 1)) ≤ 10) = true := decide_eq_true c5
    by_cases c6 : a0 ≥ 10
    ·rw [if_pos c6] at H
     have c6b0 : decide (10 ≤ a0) = true := decide_eq_true c6
     clear c6
     obtain ⟨ji7, hji7⟩ : ∃ j_ : Int, (Int.tmod (wrap64 (Int.tdiv a0 10)) 10) = j_ := ⟨_, rfl⟩
     replace H : (if 0 ≤ (ji7) then (if (ji7) ≤ (wrap64 ((ji7) + 1)) then (if (wrap64 ((ji7) + 1)) ≤ 10 then (if ((⟨#[48, 49, 50, 51, 52, 53, 54, 55, 56, 57]⟩ : ByteArray).extract ((ji7) : Int).toNat ((wrap64 ((ji7) + 1)) : Int).toNat).size + ((⟨#[48, 49, 50, 51, 52, 53, 54, 55, 56, 57]⟩ : ByteArray).extract ((ji2) : Int).toNat ((wrap64 ((ji2) + 1)) : Int).toNat).size ≤ 9223372036854775807 then (if a0 ≥ 100 then (if 0 ≤ (wrap64 (Int.tdiv a0 100)) then (if (wrap64 (Int.tdiv a0 100)) ≤ (wrap64 ((wrap64 (Int.tdiv a0 100)) + 1)) then (if (wrap64 ((wrap64 (Int.tdiv a0 100)) + 1)) ≤ 10 then (if ((⟨#[48, 49, 50, 51, 52, 53, 54, 55, 56, 57]⟩ : ByteArray).extract ((wrap64 (Int.tdiv a0 100)) : Int).toNat ((wrap64 ((wrap64 (Int.tdiv a0 100)) + 1)) : Int).toNat).size + (((⟨#[48, 49, 50, 51, 52, 53, 54, 55, 56, 57]⟩ : ByteArray).extract ((ji7) : Int).toNat ((wrap64 ((ji7) + 1)) : Int).toNat) ++ ((⟨#[48, 49, 50, 51, 52, 53, 54, 55, 56, 57]⟩ : ByteArray).extract ((ji2) : Int).toNat ((wrap64 ((ji2) + 1)) : Int).toNat)).size ≤ 9223372036854775807 then (some (((⟨#[48, 49, 50, 51, 52, 53, 54, 55, 56, 57]⟩ : ByteArray).extract ((wrap64 (Int.tdiv a0 100)) : Int).toNat ((wrap64 ((wrap64 (Int.tdiv a0 100)) + 1)) : Int).toNat) ++ (((⟨#[48, 49, 50, 51, 52, 53, 54, 55, 56, 57]⟩ : ByteArray).extract ((ji7) : Int).toNat ((wrap64 ((ji7) + 1)) : Int).toNat) ++ ((⟨#[48, 49, 50, 51, 52, 53, 54, 55, 56, 57]⟩ : ByteArray).extract ((ji2) : Int).toNat ((wrap64 ((ji2) + 1)) : Int).toNat)))) else (none)) else (none)) else (none)) else (none)) else (some (((⟨#[48, 49, 50, 51, 52, 53, 54, 55, 56, 57]⟩ : ByteArray).extract ((ji7) : Int).toNat ((wrap64 ((ji7) + 1)) : Int).toNat) ++ ((⟨#[48, 49, 50, 51, 52, 53, 54, 55, 56, 57]⟩ : ByteArray).extract ((ji2) : Int).toNat ((wrap64 ((ji2) + 1)) : Int).toNat)))) else (none)) else (none)) else (none)) else (none)) = some r := by first | (rw [hji7] at H; exact H) | (simp only [hji7] at H ⊢; exact H)
     by_cases c8 : 0 ≤ (ji7)
     ·rw [if_pos c8] at H
      have c8b0 := eq_true c8
      have c8b1 : decide (0 ≤ (ji7)) = true := decide_eq_true c8
      clear c8
      by_cases c9 : (ji7) ≤ (wrap64 ((ji7) + 1))
      ·rw [if_pos c9] at H
       have c9b0 := eq_true c9
       have c9b1 : decide ((ji7) ≤ (wrap64 ((ji7) + 1))) = true := decide_eq_true c9
       by_cases c10 : (wrap64 ((ji7) + 1)) ≤ 10
       ·rw [if_pos c10] at H
        have c10b0 := eq_true c10
        have c10b1 : decide ((wrap64 ((ji7) + 1)) ≤ 10) = true := decide_eq_true c10
        by_cases c11 : ((⟨#[48, 49, 50, 51, 52, 53, 54, 55, 56, 57]⟩ : ByteArray).extract ((ji7) : Int).toNat ((wrap64 ((ji7) + 1)) : Int).toNat).size + ((⟨#[48, 49, 50, 51, 52, 53, 54, 55, 56, 57]⟩ : ByteArray).extract ((ji2) : Int).toNat ((wrap64 ((ji2) + 1)) : Int).toNat).size ≤ 9223372036854775807
        ·rw [if_pos c11] at H
         have c11b0 := eq_true c11
         have c11b1 : decide (((⟨#[48, 49, 50, 51, 52, 53, 54, 55, 56, 57]⟩ : ByteArray).extract ((ji7) : Int).toNat ((wrap64 ((ji7) + 1)) : Int).toNat).size + ((⟨#[48, 49, 50, 51, 52, 53, 54, 55, 56, 57]⟩ : ByteArray).extract ((ji2) : Int).toNat ((wrap64 ((ji2) + 1)) : Int).toNat).size ≤ 9223372036854775807) = true := decide_eq_true c11
         try have c11b2 : (9223372036854775807 < ((⟨#[48, 49, 50, 51, 52, 53, 54, 55, 56, 57]⟩ : ByteArray).extract ((ji7) : Int).toNat ((wrap64 ((ji7) + 1)) : Int).toNat).size + ((⟨#[48, 49, 50, 51, 52, 53, 54, 55, 56, 57]⟩ : ByteArray).extract ((ji2) : Int).toNat ((wrap64 ((ji2) + 1)) : Int).toNat).size) = False := eq_false (Nat.not_lt.2 c11)
         by_cases c12 : a0 ≥ 100
         ·rw [if_pos c12] at H
          have c12b0 : decide (100 ≤ a0) = true := decide_eq_true c12
          clear c12
          obtain ⟨ji13, hji13⟩ : ∃ j_ : Int, (wrap64 (Int.tdiv a0 100)) = j_ := ⟨_, rfl⟩
          replace H : (if 0 ≤ (ji13) then (if (ji13) ≤ (wrap64 ((ji13) + 1)) then (if (wrap64 ((ji13) + 1)) ≤ 10 then (if ((⟨#[48, 49, 50, 51, 52, 53, 54, 55, 56, 57]⟩ : ByteArray).extract ((ji13) : Int).toNat ((wrap64 ((ji13) + 1)) : Int).toNat).size + (((⟨#[48, 49, 50, 51, 52, 53, 54, 55, 56, 57]⟩ : ByteArray).extract ((ji7) : Int).toNat ((wrap64 ((ji7) + 1)) : Int).toNat) ++ ((⟨#[48, 49, 50, 51, 52, 53, 54, 55, 56, 57]⟩ : ByteArray).extract ((ji2) : Int).toNat ((wrap64 ((ji2) + 1)) : Int).toNat)).size ≤ 9223372036854775807 then (some (((⟨#[48, 49, 50, 51, 52, 53, 54, 55, 56, 57]⟩ : ByteArray).extract ((ji13) : Int).toNat ((wrap64 ((ji13) + 1)) : Int).toNat) ++ (((⟨#[48, 49, 50, 51, 52, 53, 54, 55, 56, 57]⟩ : ByteArray).extract ((ji7) : Int).toNat ((wrap64 ((ji7) + 1)) : Int).toNat) ++ ((⟨#[48, 49, 50, 51, 52, 53, 54, 55, 56, 57]⟩ : ByteArray).extract ((ji2) : Int).toNat ((wrap64 ((ji2) + 1)) : Int).toNat)))) else (none)) else (none)) else (none)) else (none)) = some r := by first | (rw [hji13] at H; exact H) | (simp only [hji13] at H ⊢; exact H)
          have hji13w : (IntKind.i64.wrap (Int.tdiv a0 100)) = ji13 := (i64_w _).trans hji13
          by_cases c14 : 0 ≤ (ji13)
          ·rw [if_pos c14] at H
           have c14b0 := eq_true c14
           have c14b1 : decide (0 ≤ (ji13)) = true := decide_eq_true c14
           clear c14
           by_cases c15 : (ji13) ≤ (wrap64 ((ji13) + 1))
           ·rw [if_pos c15] at H
            have c15b0 := eq_true c15
            have c15b1 : decide ((ji13) ≤ (wrap64 ((ji13) + 1))) = true := decide_eq_true c15
            by_cases c16 : (wrap64 ((ji13) + 1)) ≤ 10
            ·rw [if_pos c16] at H
             have c16b0 := eq_true c16
             have c16b1 : decide ((wrap64 ((ji13) + 1)) ≤ 10) = true := decide_eq_true c16
             by_cases c17 : ((⟨#[48, 49, 50, 51, 52, 53, 54, 55, 56, 57]⟩ : ByteArray).extract ((ji13) : Int).toNat ((wrap64 ((ji13) + 1)) : Int).toNat).size + (((⟨#[48, 49, 50, 51, 52, 53, 54, 55, 56, 57]⟩ : ByteArray).extract ((ji7) : Int).toNat ((wrap64 ((ji7) + 1)) : Int).toNat) ++ ((⟨#[48, 49, 50, 51, 52, 53, 54, 55, 56, 57]⟩ : ByteArray).extract ((ji2) : Int).toNat ((wrap64 ((ji2) + 1)) : Int).toNat)).size ≤ 9223372036854775807
             ·rw [if_pos c17] at H
              have c17b0 := eq_true c17
              have c17b1 : decide (((⟨#[48, 49, 50, 51, 52, 53, 54, 55, 56, 57]⟩ : ByteArray).extract ((ji13) : Int).toNat ((wrap64 ((ji13) + 1)) : Int).toNat).size + (((⟨#[48, 49, 50, 51, 52, 53, 54, 55, 56, 57]⟩ : ByteArray).extract ((ji7) : Int).toNat ((wrap64 ((ji7) + 1)) : Int).toNat) ++ ((⟨#[48, 49, 50, 51, 52, 53, 54, 55, 56, 57]⟩ : ByteArray).extract ((ji2) : Int).toNat ((wrap64 ((ji2) + 1)) : Int).toNat)).size ≤ 9223372036854775807) = true := decide_eq_true c17
              try have c17b2 : (9223372036854775807 < ((⟨#[48, 49, 50, 51, 52, 53, 54, 55, 56, 57]⟩ : ByteArray).extract ((ji13) : Int).toNat ((wrap64 ((ji13) + 1)) : Int).toNat).size + (((⟨#[48, 49, 50, 51, 52, 53, 54, 55, 56, 57]⟩ : ByteArray).extract ((ji7) : Int).toNat ((wrap64 ((ji7) + 1)) : Int).toNat) ++ ((⟨#[48, 49, 50, 51, 52, 53, 54, 55, 56, 57]⟩ : ByteArray).extract ((ji2) : Int).toNat ((wrap64 ((ji2) + 1)) : Int).toNat)).size) = False := eq_false (Nat.not_lt.2 c17)
              (try (have c17b5 := c17b2; simp only [ByteArray.size_append, show (⟨#[48, 49, 50, 51, 52, 53, 54, 55, 56, 57]⟩ : ByteArray).size = 10 from rfl] at c17b5))
              obtain rfl := Option.some.inj H
              go_enter Tryd.func80, Tryd.ntmps80
              go_wp2
              go_ret
              exact ⟨by first | rfl | (simp; done) | (simp only [← hji2, ← hji7, ← hji13] <;> (first | rfl | simp)) | (simp [*]; done), by repeat (first | exact Drawn0.refl _ | apply Drawn0.step)⟩
             ·rw [if_neg c17] at H
              exact absurd H (by simp)
            ·rw [if_neg c16] at H
             exact absurd H (by simp)
           ·rw [if_neg c15] at H
            exact absurd H (by simp)
          ·rw [if_neg c14] at H
           exact absurd H (by simp)
         ·rw [if_neg c12] at H
          have c12b0 : decide (100 ≤ a0) = false := decide_eq_false c12
          clear c12
          obtain rfl := Option.some.inj H
          go_enter Tryd.func80, Tryd.ntmps80
          go_wp2
          go_ret
          exact ⟨by first | rfl | (simp; done) | (simp only [← hji2, ← hji7] <;> (first | rfl | simp)) | (simp [*]; done), by repeat (first | exact Drawn0.refl _ | apply Drawn0.step)⟩
        ·rw [if_neg c11] at H
         exact absurd H (by simp)
       ·rw [if_neg c10] at H
        exact absurd H (by simp)
      ·rw [if_neg c9] at H
       exact absurd H (by simp)
     ·rw [if_neg c8] at H
      exact absurd H (by simp)
    ·rw [if_neg c6] at H
     have c6b0 : decide (10 ≤ a0) = false := decide_eq_false c6
     clear c6
     by_cases c18 : a0 ≥ 100
     ·rw [if_pos c18] at H
      have c18b0 : decide (100 ≤ a0) = true := decide_eq_true c18
      clear c18
      obtain ⟨ji19, hji19⟩ : ∃ j_ : Int, (wrap64 (Int.tdiv a0 100)) = j_ := ⟨_, rfl⟩
      replace H : (if 0 ≤ (ji19) then (if (ji19) ≤ (wrap64 ((ji19) + 1)) then (if (wrap64 ((ji19) + 1)) ≤ 10 then (if ((⟨#[48, 49, 50, 51, 52, 53, 54, 55, 56, 57]⟩ : ByteArray).extract ((ji19) : Int).toNat ((wrap64 ((ji19) + 1)) : Int).toNat).size + ((⟨#[48, 49, 50, 51, 52, 53, 54, 55, 56, 57]⟩ : ByteArray).extract ((ji2) : Int).toNat ((wrap64 ((ji2) + 1)) : Int).toNat).size ≤ 9223372036854775807 then (some (((⟨#[48, 49, 50, 51, 52, 53, 54, 55, 56, 57]⟩ : ByteArray).extract ((ji19) : Int).toNat ((wrap64 ((ji19) + 1)) : Int).toNat) ++ ((⟨#[48, 49, 50, 51, 52, 53, 54, 55, 56, 57]⟩ : ByteArray).extract ((ji2) : Int).toNat ((wrap64 ((ji2) + 1)) : Int).toNat))) else (none)) else (none)) else (none)) else (none)) = some r := by first | (rw [hji19] at H; exact H) | (simp only [hji19] at H ⊢; exact H)
      have hji19w : (IntKind.i64.wrap (Int.tdiv a0 100)) = ji19 := (i64_w _).trans hji19
      by_cases c20 : 0 ≤ (ji19)
      ·rw [if_pos c20] at H
       have c20b0 := eq_true c20
       have c20b1 : decide (0 ≤ (ji19)) = true := decide_eq_true c20
       clear c20
       by_cases c21 : (ji19) ≤ (wrap64 ((ji19) + 1))
       ·rw [if_pos c21] at H
        have c21b0 := eq_true c21
        have c21b1 : decide ((ji19) ≤ (wrap64 ((ji19) + 1))) = true := decide_eq_true c21
        by_cases c22 : (wrap64 ((ji19) + 1)) ≤ 10
        ·rw [if_pos c22] at H
         have c22b0 := eq_true c22
         have c22b1 : decide ((wrap64 ((ji19) + 1)) ≤ 10) = true := decide_eq_true c22
         by_cases c23 : ((⟨#[48, 49, 50, 51, 52, 53, 54, 55, 56, 57]⟩ : ByteArray).extract ((ji19) : Int).toNat ((wrap64 ((ji19) + 1)) : Int).toNat).size + ((⟨#[48, 49, 50, 51, 52, 53, 54, 55, 56, 57]⟩ : ByteArray).extract ((ji2) : Int).toNat ((wrap64 ((ji2) + 1)) : Int).toNat).size ≤ 9223372036854775807
         ·rw [if_pos c23] at H
          have c23b0 := eq_true c23
          have c23b1 : decide (((⟨#[48, 49, 50, 51, 52, 53, 54, 55, 56, 57]⟩ : ByteArray).extract ((ji19) : Int).toNat ((wrap64 ((ji19) + 1)) : Int).toNat).size + ((⟨#[48, 49, 50, 51, 52, 53, 54, 55, 56, 57]⟩ : ByteArray).extract ((ji2) : Int).toNat ((wrap64 ((ji2) + 1)) : Int).toNat).size ≤ 9223372036854775807) = true := decide_eq_true c23
          try have c23b2 : (9223372036854775807 < ((⟨#[48, 49, 50, 51, 52, 53, 54, 55, 56, 57]⟩ : ByteArray).extract ((ji19) : Int).toNat ((wrap64 ((ji19) + 1)) : Int).toNat).size + ((⟨#[48, 49, 50, 51, 52, 53, 54, 55, 56, 57]⟩ : ByteArray).extract ((ji2) : Int).toNat ((wrap64 ((ji2) + 1)) : Int).toNat).size) = False := eq_false (Nat.not_lt.2 c23)
          obtain rfl := Option.some.inj H
          go_enter Tryd.func80, Tryd.ntmps80
          go_wp2
          go_ret
          exact ⟨by first | rfl | (simp; done) | (simp only [← hji2, ← hji19] <;> (first | rfl | simp)) | (simp [*]; done), by repeat (first | exact Drawn0.refl _ | apply Drawn0.step)⟩
         ·rw [if_neg c23] at H
          exact absurd H (by simp)
        ·rw [if_neg c22] at H
         exact absurd H (by simp)
       ·rw [if_neg c21] at H
        exact absurd H (by simp)
      ·rw [if_neg c20] at H
       exact absurd H (by simp)
     ·rw [if_neg c18] at H
      have c18b0 : decide (100 ≤ a0) = false := decide_eq_false c18
      clear c18
      obtain rfl := Option.some.inj H
      go_enter Tryd.func80, Tryd.ntmps80
      go_wp2
      go_ret
      exact ⟨by first | rfl | (simp; done) | (simp only [← hji2] <;> (first | rfl | simp)) | (simp [*]; done), by repeat (first | exact Drawn0.refl _ | apply Drawn0.step)⟩
   ·rw [if_neg c5] at H
    exact absurd H (by simp)
  ·rw [if_neg c4] at H
   exact absurd H (by simp)
 ·rw [if_neg c3] at H
  exact absurd H (by simp)

end Go.Proofs.YtpmieapgbdbabaaDoor.QAll
end

section
/- Walks, written by a program of this session (wip/pp): a Go function comes to what the Lean function beside it tells. -/
namespace Go.Proofs.YtpmieapgbdbabaaDoor.QAll
open Go.RowKit Go.Proofs.YtpmieapgbdbabaaDoorW.PrintWords Go.Proofs.YtpmieapgbdbabaaDoorW.PrintLast Go.Proofs.YtpmieapgbdbabaaDoorW.PrintMore
attribute [local go_sem] max2_int min2_int max_two min_two max_three min_three max_four min_four
set_option linter.unusedVariables false
set_option linter.unusedSimpArgs false

mutual
def squelchref08_Text.j0 : Nat → ByteArray → Bool → Bool → Int → Int → Int → Int → Option (ByteArray)
 | 0, _, _, _, _, _, _, _ => none
 | k + 1, x3, x596000, x596001, x596002, x596003, x596004, x596005 => if x596001 = true then (if x3.size + 5 ≤ 9223372036854775807 then (squelchref08_Text.j1 k (x3 ++ (⟨#[83, 82, 69, 74, 32]⟩ : ByteArray)) x596000 x596001 x596002 x596003 x596004 x596005) else (none)) else (squelchref08_Text.j1 k x3 x596000 x596001 x596002 x596003 x596004 x596005)
def squelchref08_Text.j1 : Nat → ByteArray → Bool → Bool → Int → Int → Int → Int → Option (ByteArray)
 | 0, _, _, _, _, _, _, _ => none
 | k + 1, x3, x596000, x596001, x596002, x596003, x596004, x596005 => if x3.size + 3 ≤ 9223372036854775807 then ((squelchref08_digits.f x596002).bind fun t596 => (if (x3 ++ (⟨#[78, 49, 61]⟩ : ByteArray)).size + t596.size ≤ 9223372036854775807 then (if ((x3 ++ (⟨#[78, 49, 61]⟩ : ByteArray)) ++ t596).size + 3 ≤ 9223372036854775807 then ((squelchref08_digits.f x596003).bind fun t597 => (if (((x3 ++ (⟨#[78, 49, 61]⟩ : ByteArray)) ++ t596) ++ (⟨#[32, 75, 61]⟩ : ByteArray)).size + t597.size ≤ 9223372036854775807 then (if ((((x3 ++ (⟨#[78, 49, 61]⟩ : ByteArray)) ++ t596) ++ (⟨#[32, 75, 61]⟩ : ByteArray)) ++ t597).size + 4 ≤ 9223372036854775807 then ((squelchref08_digits.f x596004).bind fun t598 => (if (((((x3 ++ (⟨#[78, 49, 61]⟩ : ByteArray)) ++ t596) ++ (⟨#[32, 75, 61]⟩ : ByteArray)) ++ t597) ++ (⟨#[32, 84, 49, 61]⟩ : ByteArray)).size + t598.size ≤ 9223372036854775807 then (if ((((((x3 ++ (⟨#[78, 49, 61]⟩ : ByteArray)) ++ t596) ++ (⟨#[32, 75, 61]⟩ : ByteArray)) ++ t597) ++ (⟨#[32, 84, 49, 61]⟩ : ByteArray)) ++ t598).size + 4 ≤ 9223372036854775807 then ((squelchref08_digits.f x596005).bind fun t599 => (if (((((((x3 ++ (⟨#[78, 49, 61]⟩ : ByteArray)) ++ t596) ++ (⟨#[32, 75, 61]⟩ : ByteArray)) ++ t597) ++ (⟨#[32, 84, 49, 61]⟩ : ByteArray)) ++ t598) ++ (⟨#[32, 78, 50, 61]⟩ : ByteArray)).size + t599.size ≤ 9223372036854775807 then (some ((((((((x3 ++ (⟨#[78, 49, 61]⟩ : ByteArray)) ++ t596) ++ (⟨#[32, 75, 61]⟩ : ByteArray)) ++ t597) ++ (⟨#[32, 84, 49, 61]⟩ : ByteArray)) ++ t598) ++ (⟨#[32, 78, 50, 61]⟩ : ByteArray)) ++ t599)) else (none))) else (none)) else (none))) else (none)) else (none))) else (none)) else (none))) else (none)
end
def squelchref08_Text.f (k : Nat) (a0_0 : Bool) (a0_1 : Bool) (a0_2 : Int) (a0_3 : Int) (a0_4 : Int) (a0_5 : Int) : Option (ByteArray) := if a0_0 = true then (if 0 + 5 ≤ 9223372036854775807 then (squelchref08_Text.j0 k ((⟨#[]⟩ : ByteArray) ++ (⟨#[87, 73, 68, 69, 32]⟩ : ByteArray)) a0_0 a0_1 a0_2 a0_3 a0_4 a0_5) else (none)) else (squelchref08_Text.j0 k (⟨#[]⟩ : ByteArray) a0_0 a0_1 a0_2 a0_3 a0_4 a0_5)
set_option maxHeartbeats 8000000 in
set_option maxRecDepth 100000 in
theorem squelchref08_Text.calls (k : Nat) (a0_0 : Bool) (a0_1 : Bool) (a0_2 : Int) (a0_3 : Int) (a0_4 : Int) (a0_5 : Int) (r : ByteArray) (w : World) (h : squelchref08_Text.f k a0_0 a0_1 a0_2 a0_3 a0_4 a0_5 = some r) :
  Calls Tryd.prog 50 #[.agg #[.bool a0_0, .bool a0_1, .int .i64 a0_2, .int .i64 a0_3, .int .i64 a0_4, .int .i64 a0_5]] w fun e w' => e = .returned (.string r) ∧ Below w.heap.size w w' := by
 have hu75 := Tryd.underlying75
 have HB := Aside0.mk (Below.refl w.heap.size w)
 have H : (if a0_0 = true then (if 0 + 5 ≤ 9223372036854775807 then (squelchref08_Text.j0 k ((⟨#[]⟩ : ByteArray) ++ (⟨#[87, 73, 68, 69, 32]⟩ : ByteArray)) a0_0 a0_1 a0_2 a0_3 a0_4 a0_5) else (none)) else (squelchref08_Text.j0 k (⟨#[]⟩ : ByteArray) a0_0 a0_1 a0_2 a0_3 a0_4 a0_5)) = some r := h
 clear h
 have HC2 := Aside0.mk H
 clear H
 go_enter Tryd.func50, Tryd.ntmps50
 go_upto_if 5 with (first | ((with_reducible refine gate_dst (N := 1) rfl ?_); refine box_event ?hg (N := 1) ?hd (cs := #[.bool a0_0, .bool a0_1, .int .i64 a0_2, .int .i64 a0_3, .int .i64 a0_4, .int .i64 a0_5]) (t := 75) ?hr ?_; (case hd => rfl); (case hg => rfl); (case hr => first | (go_simp; done) | (go_simp; rfl)); intro gb595 hg w3 hbox hb; have n0_ := Aside0.mk (below_step (by repeat (first | (with_reducible first | exact HB.out | apply below_alloc | apply pw_below_drewN | apply below_drew1) | exact HB.out)) hb); have n1_ := Aside0.mk (hbox); have n2_ := Aside0.mk ((by rw [hg]; exact (below_size (by repeat (first | (with_reducible first | exact HB.out | apply below_alloc | apply pw_below_drewN | apply below_drew1) | exact HB.out))) : w.heap.size ≤ gb595)); have n3_ := Aside0.mk ((by rw [hg]; exact (below_size (by repeat (first | (with_reducible first | exact HB.out | apply below_alloc | apply pw_below_drewN | apply below_drew1) | exact HB.out))) : w.heap.size ≤ gb595)); clear HB; have HB := n0_; have BK595 := n1_; have GW595 := n2_; have GE595 := n3_; clear n0_ n1_ n2_ n3_; clear hb hbox hg; have hcz4_0 : w3.cell? ⟨gb595, 0, none⟩ = some (.bool a0_0) := (blk_cell BK595.out 0).trans rfl; have hcz4_1 : w3.cell? ⟨gb595, 1, none⟩ = some (.bool a0_1) := (blk_cell BK595.out 1).trans rfl; have hcz4_2 : w3.cell? ⟨gb595, 2, none⟩ = some (.int .i64 a0_2) := (blk_cell BK595.out 2).trans rfl; have hcz4_3 : w3.cell? ⟨gb595, 3, none⟩ = some (.int .i64 a0_3) := (blk_cell BK595.out 3).trans rfl; have hcz4_4 : w3.cell? ⟨gb595, 4, none⟩ = some (.int .i64 a0_4) := (blk_cell BK595.out 4).trans rfl; have hcz4_5 : w3.cell? ⟨gb595, 5, none⟩ = some (.int .i64 a0_5) := (blk_cell BK595.out 5).trans rfl; have hfz4_0 := blk_frozen BK595.out 0; have hfz4_1 := blk_frozen BK595.out 1; have hfz4_2 := blk_frozen BK595.out 2; have hfz4_3 := blk_frozen BK595.out 3; have hfz4_4 := blk_frozen BK595.out 4; have hfz4_5 := blk_frozen BK595.out 5))
 repeat (go_quiet (first | ((with_reducible refine gate_dst (N := 1) rfl ?_); refine box_event ?hg (N := 1) ?hd (cs := #[.bool a0_0, .bool a0_1, .int .i64 a0_2, .int .i64 a0_3, .int .i64 a0_4, .int .i64 a0_5]) (t := 75) ?hr ?_; (case hd => rfl); (case hg => rfl); (case hr => first | (go_simp; done) | (go_simp; rfl)); intro gb595 hg w3 hbox hb; have n0_ := Aside0.mk (below_step (by repeat (first | (with_reducible first | exact HB.out | apply below_alloc | apply pw_below_drewN | apply below_drew1) | exact HB.out)) hb); have n1_ := Aside0.mk (hbox); have n2_ := Aside0.mk ((by rw [hg]; exact (below_size (by repeat (first | (with_reducible first | exact HB.out | apply below_alloc | apply pw_below_drewN | apply below_drew1) | exact HB.out))) : w.heap.size ≤ gb595)); have n3_ := Aside0.mk ((by rw [hg]; exact (below_size (by repeat (first | (with_reducible first | exact HB.out | apply below_alloc | apply pw_below_drewN | apply below_drew1) | exact HB.out))) : w.heap.size ≤ gb595)); clear HB; have HB := n0_; have BK595 := n1_; have GW595 := n2_; have GE595 := n3_; clear n0_ n1_ n2_ n3_; clear hb hbox hg; have hcz4_0 : w3.cell? ⟨gb595, 0, none⟩ = some (.bool a0_0) := (blk_cell BK595.out 0).trans rfl; have hcz4_1 : w3.cell? ⟨gb595, 1, none⟩ = some (.bool a0_1) := (blk_cell BK595.out 1).trans rfl; have hcz4_2 : w3.cell? ⟨gb595, 2, none⟩ = some (.int .i64 a0_2) := (blk_cell BK595.out 2).trans rfl; have hcz4_3 : w3.cell? ⟨gb595, 3, none⟩ = some (.int .i64 a0_3) := (blk_cell BK595.out 3).trans rfl; have hcz4_4 : w3.cell? ⟨gb595, 4, none⟩ = some (.int .i64 a0_4) := (blk_cell BK595.out 4).trans rfl; have hcz4_5 : w3.cell? ⟨gb595, 5, none⟩ = some (.int .i64 a0_5) := (blk_cell BK595.out 5).trans rfl; have hfz4_0 := blk_frozen BK595.out 0; have hfz4_1 := blk_frozen BK595.out 1; have hfz4_2 := blk_frozen BK595.out 2; have hfz4_3 := blk_frozen BK595.out 3; have hfz4_4 := blk_frozen BK595.out 4; have hfz4_5 := blk_frozen BK595.out 5)); go_upto_if 5 with (first | ((with_reducible refine gate_dst (N := 1) rfl ?_); refine box_event ?hg (N := 1) ?hd (cs := #[.bool a0_0, .bool a0_1, .int .i64 a0_2, .int .i64 a0_3, .int .i64 a0_4, .int .i64 a0_5]) (t := 75) ?hr ?_; (case hd => rfl); (case hg => rfl); (case hr => first | (go_simp; done) | (go_simp; rfl)); intro gb595 hg w3 hbox hb; have n0_ := Aside0.mk (below_step (by repeat (first | (with_reducible first | exact HB.out | apply below_alloc | apply pw_below_drewN | apply below_drew1) | exact HB.out)) hb); have n1_ := Aside0.mk (hbox); have n2_ := Aside0.mk ((by rw [hg]; exact (below_size (by repeat (first | (with_reducible first | exact HB.out | apply below_alloc | apply pw_below_drewN | apply below_drew1) | exact HB.out))) : w.heap.size ≤ gb595)); have n3_ := Aside0.mk ((by rw [hg]; exact (below_size (by repeat (first | (with_reducible first | exact HB.out | apply below_alloc | apply pw_below_drewN | apply below_drew1) | exact HB.out))) : w.heap.size ≤ gb595)); clear HB; have HB := n0_; have BK595 := n1_; have GW595 := n2_; have GE595 := n3_; clear n0_ n1_ n2_ n3_; clear hb hbox hg; have hcz4_0 : w3.cell? ⟨gb595, 0, none⟩ = some (.bool a0_0) := (blk_cell BK595.out 0).trans rfl; have hcz4_1 : w3.cell? ⟨gb595, 1, none⟩ = some (.bool a0_1) := (blk_cell BK595.out 1).trans rfl; have hcz4_2 : w3.cell? ⟨gb595, 2, none⟩ = some (.int .i64 a0_2) := (blk_cell BK595.out 2).trans rfl; have hcz4_3 : w3.cell? ⟨gb595, 3, none⟩ = some (.int .i64 a0_3) := (blk_cell BK595.out 3).trans rfl; have hcz4_4 : w3.cell? ⟨gb595, 4, none⟩ = some (.int .i64 a0_4) := (blk_cell BK595.out 4).trans rfl; have hcz4_5 : w3.cell? ⟨gb595, 5, none⟩ = some (.int .i64 a0_5) := (blk_cell BK595.out 5).trans rfl; have hfz4_0 := blk_frozen BK595.out 0; have hfz4_1 := blk_frozen BK595.out 1; have hfz4_2 := blk_frozen BK595.out 2; have hfz4_3 := blk_frozen BK595.out 3; have hfz4_4 := blk_frozen BK595.out 4; have hfz4_5 := blk_frozen BK595.out 5)))
 (try simp only [Act.put, List.setIfInBounds_toArray, List.set_cons_zero, List.set_cons_succ])
 go_cut [3] (fun v3 wc => ∃ (kq : Nat) (x3_1 : ByteArray), v3 = .string x3_1 ∧ Aside0 (squelchref08_Text.j0 kq x3_1 a0_0 a0_1 a0_2 a0_3 a0_4 a0_5 = some r) ∧ Aside0 (kq ≤ k) ∧ Aside0 (wc.heap[gb595]? = some (.cells #[.bool a0_0, .bool a0_1, .int .i64 a0_2, .int .i64 a0_3, .int .i64 a0_4, .int .i64 a0_5] 75 (0, 0))) ∧ Aside0 (Below w.heap.size w wc))
 case first =>
  have H := HC2.out
  clear HC2
  by_cases c5 : a0_0 = true
  ·subst c5
   have H1 : (if 0 + 5 ≤ 9223372036854775807 then (squelchref08_Text.j0 k ((⟨#[]⟩ : ByteArray) ++ (⟨#[87, 73, 68, 69, 32]⟩ : ByteArray)) true a0_1 a0_2 a0_3 a0_4 a0_5) else (none)) = some r := by rw [if_pos rfl] at H; exact H
   clear H
   have H := H1
   clear H1
   by_cases c6 : 0 + 5 ≤ 9223372036854775807
   ·rw [if_pos c6] at H
    have c6b0 := eq_true c6
    have c6b1 : decide (0 + 5 ≤ 9223372036854775807) = true := decide_eq_true c6
    try have c6b2 : (9223372036854775807 < 0 + 5) = False := eq_false (Nat.not_lt.2 c6)
    have H' := Aside0.mk H
    clear H
    go_wp2
    repeat (go_quiet (fail); try go_wp2)
    go_meet
    case rel => exact ⟨_, ((⟨#[]⟩ : ByteArray) ++ (⟨#[87, 73, 68, 69, 32]⟩ : ByteArray)), (by first | rfl | (simp; done) | (simp [*]; done) | (simp; exact (fun l : List UInt8 => (by cases l <;> rfl : l.isEmpty = !(l != []))) _)), H', ⟨by first | omega | exact Nat.le_refl _⟩, ⟨by (with_reducible repeat (first | refine blk_drewN ?_ _ | refine blk_drew ?_ | refine blk_alloc ?_ _)); exact BK595.out⟩, ⟨by repeat (first | (with_reducible first | exact HB.out | apply below_alloc | apply pw_below_drewN | apply below_drew1 | refine below_set ?_ GE595.out) | exact HB.out)⟩⟩
   ·rw [if_neg c6] at H
    exact absurd H (by simp)
  ·replace c5 := Bool.eq_false_iff.mpr c5
   subst c5
   have H1 : (squelchref08_Text.j0 k (⟨#[]⟩ : ByteArray) false a0_1 a0_2 a0_3 a0_4 a0_5) = some r := by rw [if_neg (show ¬ (false = true) by decide)] at H; exact H
   clear H
   have H := H1
   clear H1
   have H' := Aside0.mk H
   clear H
   go_wp2
   repeat (go_quiet (fail); try go_wp2)
   go_meet
   case rel => exact ⟨_, ((⟨#[]⟩ : ByteArray)), (by first | rfl | (simp; done) | (simp [*]; done) | (simp; exact (fun l : List UInt8 => (by cases l <;> rfl : l.isEmpty = !(l != []))) _)), H', ⟨by first | omega | exact Nat.le_refl _⟩, ⟨by (with_reducible repeat (first | refine blk_drewN ?_ _ | refine blk_drew ?_ | refine blk_alloc ?_ _)); exact BK595.out⟩, ⟨by repeat (first | (with_reducible first | exact HB.out | apply below_alloc | apply pw_below_drewN | apply below_drew1 | refine below_set ?_ GE595.out) | exact HB.out)⟩⟩
 case rest =>
  clear HC2
  try clear p2
  try clear c5
  try clear c6
  try clear c6b0
  try clear c6b1
  try clear c6b2
  try clear hcz4_0
  try clear hcz4_1
  try clear hcz4_2
  try clear hcz4_3
  try clear hcz4_4
  try clear hcz4_5
  try clear hfz4_0
  try clear hfz4_1
  try clear hfz4_2
  try clear hfz4_3
  try clear hfz4_4
  try clear hfz4_5
  obtain ⟨kq, x3_1, rfl, HA, HJ1, BK595, HB⟩ := hcut
  cases kq with
  | zero => exact absurd HA.out (by simp [squelchref08_Text.j0])
  | succ kj1 =>
   have H := HA.out
   clear HA
   simp only [squelchref08_Text.j0] at H
   have HC7 := Aside0.mk H
   clear H
   have hcz8_0 : wc.cell? ⟨gb595, 0, none⟩ = some (.bool a0_0) := (blk_cell BK595.out 0).trans rfl
   have hcz8_1 : wc.cell? ⟨gb595, 1, none⟩ = some (.bool a0_1) := (blk_cell BK595.out 1).trans rfl
   have hcz8_2 : wc.cell? ⟨gb595, 2, none⟩ = some (.int .i64 a0_2) := (blk_cell BK595.out 2).trans rfl
   have hcz8_3 : wc.cell? ⟨gb595, 3, none⟩ = some (.int .i64 a0_3) := (blk_cell BK595.out 3).trans rfl
   have hcz8_4 : wc.cell? ⟨gb595, 4, none⟩ = some (.int .i64 a0_4) := (blk_cell BK595.out 4).trans rfl
   have hcz8_5 : wc.cell? ⟨gb595, 5, none⟩ = some (.int .i64 a0_5) := (blk_cell BK595.out 5).trans rfl
   have hfz8_0 := blk_frozen BK595.out 0
   have hfz8_1 := blk_frozen BK595.out 1
   have hfz8_2 := blk_frozen BK595.out 2
   have hfz8_3 := blk_frozen BK595.out 3
   have hfz8_4 := blk_frozen BK595.out 4
   have hfz8_5 := blk_frozen BK595.out 5
   go_upto_if 9 with (fail)
   repeat (go_quiet (fail); go_upto_if 9 with (fail))
   go_cut [3] (fun v3 wc => ∃ (kq : Nat) (x3_6 : ByteArray), v3 = .string x3_6 ∧ Aside0 (squelchref08_Text.j1 kq x3_6 a0_0 a0_1 a0_2 a0_3 a0_4 a0_5 = some r) ∧ Aside0 (kq ≤ kj1) ∧ Aside0 (wc.heap[gb595]? = some (.cells #[.bool a0_0, .bool a0_1, .int .i64 a0_2, .int .i64 a0_3, .int .i64 a0_4, .int .i64 a0_5] 75 (0, 0))) ∧ Aside0 (Below w.heap.size w wc))
   case first =>
    have H := HC7.out
    clear HC7
    by_cases c9 : a0_1 = true
    ·subst c9
     have H1 : (if x3_1.size + 5 ≤ 9223372036854775807 then (squelchref08_Text.j1 kj1 (x3_1 ++ (⟨#[83, 82, 69, 74, 32]⟩ : ByteArray)) a0_0 true a0_2 a0_3 a0_4 a0_5) else (none)) = some r := by rw [if_pos rfl] at H; exact H
     clear H
     have H := H1
     clear H1
     by_cases c10 : x3_1.size + 5 ≤ 9223372036854775807
     ·rw [if_pos c10] at H
      have c10b0 := eq_true c10
      have c10b1 : decide (x3_1.size + 5 ≤ 9223372036854775807) = true := decide_eq_true c10
      try have c10b2 : (9223372036854775807 < x3_1.size + 5) = False := eq_false (Nat.not_lt.2 c10)
      have H' := Aside0.mk H
      clear H
      go_wp2
      repeat (go_quiet (fail); try go_wp2)
      go_meet
      case rel => exact ⟨_, (x3_1 ++ (⟨#[83, 82, 69, 74, 32]⟩ : ByteArray)), (by first | rfl | (simp; done) | (simp [*]; done) | (simp; exact (fun l : List UInt8 => (by cases l <;> rfl : l.isEmpty = !(l != []))) _)), H', ⟨by have := HJ1.out; first | omega | exact Nat.le_refl _⟩, ⟨by (with_reducible repeat (first | refine blk_drewN ?_ _ | refine blk_drew ?_ | refine blk_alloc ?_ _)); exact BK595.out⟩, ⟨by repeat (first | (with_reducible first | exact HB.out | apply below_alloc | apply pw_below_drewN | apply below_drew1 | refine below_set ?_ GE595.out) | exact HB.out)⟩⟩
     ·rw [if_neg c10] at H
      exact absurd H (by simp)
    ·replace c9 := Bool.eq_false_iff.mpr c9
     subst c9
     have H1 : (squelchref08_Text.j1 kj1 x3_1 a0_0 false a0_2 a0_3 a0_4 a0_5) = some r := by rw [if_neg (show ¬ (false = true) by decide)] at H; exact H
     clear H
     have H := H1
     clear H1
     have H' := Aside0.mk H
     clear H
     go_wp2
     repeat (go_quiet (fail); try go_wp2)
     go_meet
     case rel => exact ⟨_, (x3_1), (by first | rfl | (simp; done) | (simp [*]; done) | (simp; exact (fun l : List UInt8 => (by cases l <;> rfl : l.isEmpty = !(l != []))) _)), H', ⟨by have := HJ1.out; first | omega | exact Nat.le_refl _⟩, ⟨by (with_reducible repeat (first | refine blk_drewN ?_ _ | refine blk_drew ?_ | refine blk_alloc ?_ _)); exact BK595.out⟩, ⟨by repeat (first | (with_reducible first | exact HB.out | apply below_alloc | apply pw_below_drewN | apply below_drew1 | refine below_set ?_ GE595.out) | exact HB.out)⟩⟩
   case rest =>
    clear HC7
    try clear c1
    try clear p2
    try clear c5
    try clear c6
    try clear c6b0
    try clear c6b1
    try clear c6b2
    try clear c9
    try clear c10
    try clear c10b0
    try clear c10b1
    try clear c10b2
    try clear hcz4_0
    try clear hcz4_1
    try clear hcz4_2
    try clear hcz4_3
    try clear hcz4_4
    try clear hcz4_5
    try clear hcz8_0
    try clear hcz8_1
    try clear hcz8_2
    try clear hcz8_3
    try clear hcz8_4
    try clear hcz8_5
    try clear hfz4_0
    try clear hfz4_1
    try clear hfz4_2
    try clear hfz4_3
    try clear hfz4_4
    try clear hfz4_5
    try clear hfz8_0
    try clear hfz8_1
    try clear hfz8_2
    try clear hfz8_3
    try clear hfz8_4
    try clear hfz8_5
    try clear p2
    obtain ⟨kq, x3_6, rfl, HA, HJ6, BK595, HB⟩ := hcut
    cases kq with
    | zero => exact absurd HA.out (by simp [squelchref08_Text.j1])
    | succ kj6 =>
     have H := HA.out
     clear HA
     simp only [squelchref08_Text.j1] at H
     by_cases c11 : x3_6.size + 3 ≤ 9223372036854775807
     ·rw [if_pos c11] at H
      have c11b0 := eq_true c11
      have c11b1 : decide (x3_6.size + 3 ≤ 9223372036854775807) = true := decide_eq_true c11
      try have c11b2 : (9223372036854775807 < x3_6.size + 3) = False := eq_false (Nat.not_lt.2 c11)
      replace H := Option.bind_eq_some_iff.mp H
      obtain ⟨t596, A120, H⟩ := H
      replace H : (if (x3_6 ++ (⟨#[78, 49, 61]⟩ : ByteArray)).size + t596.size ≤ 9223372036854775807 then (if ((x3_6 ++ (⟨#[78, 49, 61]⟩ : ByteArray)) ++ t596).size + 3 ≤ 9223372036854775807 then ((squelchref08_digits.f a0_3).bind fun t597 => (if (((x3_6 ++ (⟨#[78, 49, 61]⟩ : ByteArray)) ++ t596) ++ (⟨#[32, 75, 61]⟩ : ByteArray)).size + t597.size ≤ 9223372036854775807 then (if ((((x3_6 ++ (⟨#[78, 49, 61]⟩ : ByteArray)) ++ t596) ++ (⟨#[32, 75, 61]⟩ : ByteArray)) ++ t597).size + 4 ≤ 9223372036854775807 then ((squelchref08_digits.f a0_4).bind fun t598 => (if (((((x3_6 ++ (⟨#[78, 49, 61]⟩ : ByteArray)) ++ t596) ++ (⟨#[32, 75, 61]⟩ : ByteArray)) ++ t597) ++ (⟨#[32, 84, 49, 61]⟩ : ByteArray)).size + t598.size ≤ 9223372036854775807 then (if ((((((x3_6 ++ (⟨#[78, 49, 61]⟩ : ByteArray)) ++ t596) ++ (⟨#[32, 75, 61]⟩ : ByteArray)) ++ t597) ++ (⟨#[32, 84, 49, 61]⟩ : ByteArray)) ++ t598).size + 4 ≤ 9223372036854775807 then ((squelchref08_digits.f a0_5).bind fun t599 => (if (((((((x3_6 ++ (⟨#[78, 49, 61]⟩ : ByteArray)) ++ t596) ++ (⟨#[32, 75, 61]⟩ : ByteArray)) ++ t597) ++ (⟨#[32, 84, 49, 61]⟩ : ByteArray)) ++ t598) ++ (⟨#[32, 78, 50, 61]⟩ : ByteArray)).size + t599.size ≤ 9223372036854775807 then (some ((((((((x3_6 ++ (⟨#[78, 49, 61]⟩ : ByteArray)) ++ t596) ++ (⟨#[32, 75, 61]⟩ : ByteArray)) ++ t597) ++ (⟨#[32, 84, 49, 61]⟩ : ByteArray)) ++ t598) ++ (⟨#[32, 78, 50, 61]⟩ : ByteArray)) ++ t599)) else (none))) else (none)) else (none))) else (none)) else (none))) else (none)) else (none)) = some r := H
      have A12 := Aside0.mk A120
      clear A120
      by_cases c13 : (x3_6 ++ (⟨#[78, 49, 61]⟩ : ByteArray)).size + t596.size ≤ 9223372036854775807
      ·rw [if_pos c13] at H
       have c13b0 := eq_true c13
       have c13b1 : decide ((x3_6 ++ (⟨#[78, 49, 61]⟩ : ByteArray)).size + t596.size ≤ 9223372036854775807) = true := decide_eq_true c13
       try have c13b2 : (9223372036854775807 < (x3_6 ++ (⟨#[78, 49, 61]⟩ : ByteArray)).size + t596.size) = False := eq_false (Nat.not_lt.2 c13)
       (try (have c13b5 := c13b2; simp only [ByteArray.size_append, show (⟨#[78, 49, 61]⟩ : ByteArray).size = 3 from rfl] at c13b5))
       (try (have c13b5 := c13b2; simp only [ByteArray.size_append, show (⟨#[78, 49, 61]⟩ : ByteArray).size = 3 from rfl] at c13b5))
       by_cases c14 : ((x3_6 ++ (⟨#[78, 49, 61]⟩ : ByteArray)) ++ t596).size + 3 ≤ 9223372036854775807
       ·rw [if_pos c14] at H
        have c14b0 := eq_true c14
        have c14b1 : decide (((x3_6 ++ (⟨#[78, 49, 61]⟩ : ByteArray)) ++ t596).size + 3 ≤ 9223372036854775807) = true := decide_eq_true c14
        try have c14b2 : (9223372036854775807 < ((x3_6 ++ (⟨#[78, 49, 61]⟩ : ByteArray)) ++ t596).size + 3) = False := eq_false (Nat.not_lt.2 c14)
        (try (have c14b5 := c14b2; simp only [ByteArray.size_append, show (⟨#[78, 49, 61]⟩ : ByteArray).size = 3 from rfl] at c14b5))
        (try (have c14b5 := c14b2; simp only [ByteArray.size_append, show (⟨#[78, 49, 61]⟩ : ByteArray).size = 3 from rfl] at c14b5))
        replace H := Option.bind_eq_some_iff.mp H
        obtain ⟨t597, A150, H⟩ := H
        replace H : (if (((x3_6 ++ (⟨#[78, 49, 61]⟩ : ByteArray)) ++ t596) ++ (⟨#[32, 75, 61]⟩ : ByteArray)).size + t597.size ≤ 9223372036854775807 then (if ((((x3_6 ++ (⟨#[78, 49, 61]⟩ : ByteArray)) ++ t596) ++ (⟨#[32, 75, 61]⟩ : ByteArray)) ++ t597).size + 4 ≤ 9223372036854775807 then ((squelchref08_digits.f a0_4).bind fun t598 => (if (((((x3_6 ++ (⟨#[78, 49, 61]⟩ : ByteArray)) ++ t596) ++ (⟨#[32, 75, 61]⟩ : ByteArray)) ++ t597) ++ (⟨#[32, 84, 49, 61]⟩ : ByteArray)).size + t598.size ≤ 9223372036854775807 then (if ((((((x3_6 ++ (⟨#[78, 49, 61]⟩ : ByteArray)) ++ t596) ++ (⟨#[32, 75, 61]⟩ : ByteArray)) ++ t597) ++ (⟨#[32, 84, 49, 61]⟩ : ByteArray)) ++ t598).size + 4 ≤ 9223372036854775807 then ((squelchref08_digits.f a0_5).bind fun t599 => (if (((((((x3_6 ++ (⟨#[78, 49, 61]⟩ : ByteArray)) ++ t596) ++ (⟨#[32, 75, 61]⟩ : ByteArray)) ++ t597) ++ (⟨#[32, 84, 49, 61]⟩ : ByteArray)) ++ t598) ++ (⟨#[32, 78, 50, 61]⟩ : ByteArray)).size + t599.size ≤ 9223372036854775807 then (some ((((((((x3_6 ++ (⟨#[78, 49, 61]⟩ : ByteArray)) ++ t596) ++ (⟨#[32, 75, 61]⟩ : ByteArray)) ++ t597) ++ (⟨#[32, 84, 49, 61]⟩ : ByteArray)) ++ t598) ++ (⟨#[32, 78, 50, 61]⟩ : ByteArray)) ++ t599)) else (none))) else (none)) else (none))) else (none)) else (none)) = some r := H
        have A15 := Aside0.mk A150
        clear A150
        by_cases c16 : (((x3_6 ++ (⟨#[78, 49, 61]⟩ : ByteArray)) ++ t596) ++ (⟨#[32, 75, 61]⟩ : ByteArray)).size + t597.size ≤ 9223372036854775807
        ·rw [if_pos c16] at H
         have c16b0 := eq_true c16
         have c16b1 : decide ((((x3_6 ++ (⟨#[78, 49, 61]⟩ : ByteArray)) ++ t596) ++ (⟨#[32, 75, 61]⟩ : ByteArray)).size + t597.size ≤ 9223372036854775807) = true := decide_eq_true c16
         try have c16b2 : (9223372036854775807 < (((x3_6 ++ (⟨#[78, 49, 61]⟩ : ByteArray)) ++ t596) ++ (⟨#[32, 75, 61]⟩ : ByteArray)).size + t597.size) = False := eq_false (Nat.not_lt.2 c16)
         (try (have c16b5 := c16b2; simp only [ByteArray.size_append, show (⟨#[78, 49, 61]⟩ : ByteArray).size = 3 from rfl, show (⟨#[32, 75, 61]⟩ : ByteArray).size = 3 from rfl] at c16b5))
         (try (have c16b5 := c16b2; simp only [ByteArray.size_append, show (⟨#[78, 49, 61]⟩ : ByteArray).size = 3 from rfl, show (⟨#[32, 75, 61]⟩ : ByteArray).size = 3 from rfl] at c16b5))
         by_cases c17 : ((((x3_6 ++ (⟨#[78, 49, 61]⟩ : ByteArray)) ++ t596) ++ (⟨#[32, 75, 61]⟩ : ByteArray)) ++ t597).size + 4 ≤ 9223372036854775807
         ·rw [if_pos c17] at H
          have c17b0 := eq_true c17
          have c17b1 : decide (((((x3_6 ++ (⟨#[78, 49, 61]⟩ : ByteArray)) ++ t596) ++ (⟨#[32, 75, 61]⟩ : ByteArray)) ++ t597).size + 4 ≤ 9223372036854775807) = true := decide_eq_true c17
          try have c17b2 : (9223372036854775807 < ((((x3_6 ++ (⟨#[78, 49, 61]⟩ : ByteArray)) ++ t596) ++ (⟨#[32, 75, 61]⟩ : ByteArray)) ++ t597).size + 4) = False := eq_false (Nat.not_lt.2 c17)
          (try (have c17b5 := c17b2; simp only [ByteArray.size_append, show (⟨#[78, 49, 61]⟩ : ByteArray).size = 3 from rfl, show (⟨#[32, 75, 61]⟩ : ByteArray).size = 3 from rfl] at c17b5))
          (try (have c17b5 := c17b2; simp only [ByteArray.size_append, show (⟨#[78, 49, 61]⟩ : ByteArray).size = 3 from rfl, show (⟨#[32, 75, 61]⟩ : ByteArray).size = 3 from rfl] at c17b5))
          replace H := Option.bind_eq_some_iff.mp H
          obtain ⟨t598, A180, H⟩ := H
          replace H : (if (((((x3_6 ++ (⟨#[78, 49, 61]⟩ : ByteArray)) ++ t596) ++ (⟨#[32, 75, 61]⟩ : ByteArray)) ++ t597) ++ (⟨#[32, 84, 49, 61]⟩ : ByteArray)).size + t598.size ≤ 9223372036854775807 then (if ((((((x3_6 ++ (⟨#[78, 49, 61]⟩ : ByteArray)) ++ t596) ++ (⟨#[32, 75, 61]⟩ : ByteArray)) ++ t597) ++ (⟨#[32, 84, 49, 61]⟩ : ByteArray)) ++ t598).size + 4 ≤ 9223372036854775807 then ((squelchref08_digits.f a0_5).bind fun t599 => (if (((((((x3_6 ++ (⟨#[78, 49, 61]⟩ : ByteArray)) ++ t596) ++ (⟨#[32, 75, 61]⟩ : ByteArray)) ++ t597) ++ (⟨#[32, 84, 49, 61]⟩ : ByteArray)) ++ t598) ++ (⟨#[32, 78, 50, 61]⟩ : ByteArray)).size + t599.size ≤ 9223372036854775807 then (some ((((((((x3_6 ++ (⟨#[78, 49, 61]⟩ : ByteArray)) ++ t596) ++ (⟨#[32, 75, 61]⟩ : ByteArray)) ++ t597) ++ (⟨#[32, 84, 49, 61]⟩ : ByteArray)) ++ t598) ++ (⟨#[32, 78, 50, 61]⟩ : ByteArray)) ++ t599)) else (none))) else (none)) else (none)) = some r := H
          have A18 := Aside0.mk A180
          clear A180
          by_cases c19 : (((((x3_6 ++ (⟨#[78, 49, 61]⟩ : ByteArray)) ++ t596) ++ (⟨#[32, 75, 61]⟩ : ByteArray)) ++ t597) ++ (⟨#[32, 84, 49, 61]⟩ : ByteArray)).size + t598.size ≤ 9223372036854775807
          ·rw [if_pos c19] at H
           have c19b0 := eq_true c19
           have c19b1 : decide ((((((x3_6 ++ (⟨#[78, 49, 61]⟩ : ByteArray)) ++ t596) ++ (⟨#[32, 75, 61]⟩ : ByteArray)) ++ t597) ++ (⟨#[32, 84, 49, 61]⟩ : ByteArray)).size + t598.size ≤ 9223372036854775807) = true := decide_eq_true c19
           try have c19b2 : (9223372036854775807 < (((((x3_6 ++ (⟨#[78, 49, 61]⟩ : ByteArray)) ++ t596) ++ (⟨#[32, 75, 61]⟩ : ByteArray)) ++ t597) ++ (⟨#[32, 84, 49, 61]⟩ : ByteArray)).size + t598.size) = False := eq_false (Nat.not_lt.2 c19)
           (try (have c19b5 := c19b2; simp only [ByteArray.size_append, show (⟨#[78, 49, 61]⟩ : ByteArray).size = 3 from rfl, show (⟨#[32, 75, 61]⟩ : ByteArray).size = 3 from rfl, show (⟨#[32, 84, 49, 61]⟩ : ByteArray).size = 4 from rfl] at c19b5))
           (try (have c19b5 := c19b2; simp only [ByteArray.size_append, show (⟨#[78, 49, 61]⟩ : ByteArray).size = 3 from rfl, show (⟨#[32, 75, 61]⟩ : ByteArray).size = 3 from rfl, show (⟨#[32, 84, 49, 61]⟩ : ByteArray).size = 4 from rfl] at c19b5))
           by_cases c20 : ((((((x3_6 ++ (⟨#[78, 49, 61]⟩ : ByteArray)) ++ t596) ++ (⟨#[32, 75, 61]⟩ : ByteArray)) ++ t597) ++ (⟨#[32, 84, 49, 61]⟩ : ByteArray)) ++ t598).size + 4 ≤ 9223372036854775807
           ·rw [if_pos c20] at H
            have c20b0 := eq_true c20
            have c20b1 : decide (((((((x3_6 ++ (⟨#[78, 49, 61]⟩ : ByteArray)) ++ t596) ++ (⟨#[32, 75, 61]⟩ : ByteArray)) ++ t597) ++ (⟨#[32, 84, 49, 61]⟩ : ByteArray)) ++ t598).size + 4 ≤ 9223372036854775807) = true := decide_eq_true c20
            try have c20b2 : (9223372036854775807 < ((((((x3_6 ++ (⟨#[78, 49, 61]⟩ : ByteArray)) ++ t596) ++ (⟨#[32, 75, 61]⟩ : ByteArray)) ++ t597) ++ (⟨#[32, 84, 49, 61]⟩ : ByteArray)) ++ t598).size + 4) = False := eq_false (Nat.not_lt.2 c20)
            (try (have c20b5 := c20b2; simp only [ByteArray.size_append, show (⟨#[78, 49, 61]⟩ : ByteArray).size = 3 from rfl, show (⟨#[32, 75, 61]⟩ : ByteArray).size = 3 from rfl, show (⟨#[32, 84, 49, 61]⟩ : ByteArray).size = 4 from rfl] at c20b5))
            (try (have c20b5 := c20b2; simp only [ByteArray.size_append, show (⟨#[78, 49, 61]⟩ : ByteArray).size = 3 from rfl, show (⟨#[32, 75, 61]⟩ : ByteArray).size = 3 from rfl, show (⟨#[32, 84, 49, 61]⟩ : ByteArray).size = 4 from rfl] at c20b5))
            replace H := Option.bind_eq_some_iff.mp H
            obtain ⟨t599, A210, H⟩ := H
            replace H : (if (((((((x3_6 ++ (⟨#[78, 49, 61]⟩ : ByteArray)) ++ t596) ++ (⟨#[32, 75, 61]⟩ : ByteArray)) ++ t597) ++ (⟨#[32, 84, 49, 61]⟩ : ByteArray)) ++ t598) ++ (⟨#[32, 78, 50, 61]⟩ : ByteArray)).size + t599.size ≤ 9223372036854775807 then (some ((((((((x3_6 ++ (⟨#[78, 49, 61]⟩ : ByteArray)) ++ t596) ++ (⟨#[32, 75, 61]⟩ : ByteArray)) ++ t597) ++ (⟨#[32, 84, 49, 61]⟩ : ByteArray)) ++ t598) ++ (⟨#[32, 78, 50, 61]⟩ : ByteArray)) ++ t599)) else (none)) = some r := H
            have A21 := Aside0.mk A210
            clear A210
            by_cases c22 : (((((((x3_6 ++ (⟨#[78, 49, 61]⟩ : ByteArray)) ++ t596) ++ (⟨#[32, 75, 61]⟩ : ByteArray)) ++ t597) ++ (⟨#[32, 84, 49, 61]⟩ : ByteArray)) ++ t598) ++ (⟨#[32, 78, 50, 61]⟩ : ByteArray)).size + t599.size ≤ 9223372036854775807
            ·rw [if_pos c22] at H
             have c22b0 := eq_true c22
             have c22b1 : decide ((((((((x3_6 ++ (⟨#[78, 49, 61]⟩ : ByteArray)) ++ t596) ++ (⟨#[32, 75, 61]⟩ : ByteArray)) ++ t597) ++ (⟨#[32, 84, 49, 61]⟩ : ByteArray)) ++ t598) ++ (⟨#[32, 78, 50, 61]⟩ : ByteArray)).size + t599.size ≤ 9223372036854775807) = true := decide_eq_true c22
             try have c22b2 : (9223372036854775807 < (((((((x3_6 ++ (⟨#[78, 49, 61]⟩ : ByteArray)) ++ t596) ++ (⟨#[32, 75, 61]⟩ : ByteArray)) ++ t597) ++ (⟨#[32, 84, 49, 61]⟩ : ByteArray)) ++ t598) ++ (⟨#[32, 78, 50, 61]⟩ : ByteArray)).size + t599.size) = False := eq_false (Nat.not_lt.2 c22)
             (try (have c22b5 := c22b2; simp only [ByteArray.size_append, show (⟨#[78, 49, 61]⟩ : ByteArray).size = 3 from rfl, show (⟨#[32, 75, 61]⟩ : ByteArray).size = 3 from rfl, show (⟨#[32, 84, 49, 61]⟩ : ByteArray).size = 4 from rfl, show (⟨#[32, 78, 50, 61]⟩ : ByteArray).size = 4 from rfl] at c22b5))
             (try (have c22b5 := c22b2; simp only [ByteArray.size_append, show (⟨#[78, 49, 61]⟩ : ByteArray).size = 3 from rfl, show (⟨#[32, 75, 61]⟩ : ByteArray).size = 3 from rfl, show (⟨#[32, 84, 49, 61]⟩ : ByteArray).size = 4 from rfl, show (⟨#[32, 78, 50, 61]⟩ : ByteArray).size = 4 from rfl] at c22b5))
             obtain rfl := Option.some.inj H
             have hcz23_0 : wc.cell? ⟨gb595, 0, none⟩ = some (.bool a0_0) := (blk_cell BK595.out 0).trans rfl
             have hcz23_1 : wc.cell? ⟨gb595, 1, none⟩ = some (.bool a0_1) := (blk_cell BK595.out 1).trans rfl
             have hcz23_2 : wc.cell? ⟨gb595, 2, none⟩ = some (.int .i64 a0_2) := (blk_cell BK595.out 2).trans rfl
             have hcz23_3 : wc.cell? ⟨gb595, 3, none⟩ = some (.int .i64 a0_3) := (blk_cell BK595.out 3).trans rfl
             have hcz23_4 : wc.cell? ⟨gb595, 4, none⟩ = some (.int .i64 a0_4) := (blk_cell BK595.out 4).trans rfl
             have hcz23_5 : wc.cell? ⟨gb595, 5, none⟩ = some (.int .i64 a0_5) := (blk_cell BK595.out 5).trans rfl
             have hfz23_0 := blk_frozen BK595.out 0
             have hfz23_1 := blk_frozen BK595.out 1
             have hfz23_2 := blk_frozen BK595.out 2
             have hfz23_3 := blk_frozen BK595.out 3
             have hfz23_4 := blk_frozen BK595.out 4
             have hfz23_5 := blk_frozen BK595.out 5
             go_wp2_with (first | (go_at_call 80; (with_reducible refine (squelchref08_digits.calls a0_2 t596 _ A12.out).mono ?_); rintro e w' ⟨rfl, ⟨nd, rfl⟩⟩; (try first | exact ⟨rfl, _, World.drewN_drewN _ _ _⟩ | exact ⟨rfl, _, Eq.trans (World.drewN_drewN _ _ _) (congrArg (World.drewN _) (Nat.add_assoc _ _ _))⟩)) | (go_at_call 80; (with_reducible refine (squelchref08_digits.calls a0_3 t597 _ A15.out).mono ?_); rintro e w' ⟨rfl, ⟨nd, rfl⟩⟩; (try first | exact ⟨rfl, _, World.drewN_drewN _ _ _⟩ | exact ⟨rfl, _, Eq.trans (World.drewN_drewN _ _ _) (congrArg (World.drewN _) (Nat.add_assoc _ _ _))⟩)) | (go_at_call 80; (with_reducible refine (squelchref08_digits.calls a0_4 t598 _ A18.out).mono ?_); rintro e w' ⟨rfl, ⟨nd, rfl⟩⟩; (try first | exact ⟨rfl, _, World.drewN_drewN _ _ _⟩ | exact ⟨rfl, _, Eq.trans (World.drewN_drewN _ _ _) (congrArg (World.drewN _) (Nat.add_assoc _ _ _))⟩)) | (go_at_call 80; (with_reducible refine (squelchref08_digits.calls a0_5 t599 _ A21.out).mono ?_); rintro e w' ⟨rfl, ⟨nd, rfl⟩⟩; (try first | exact ⟨rfl, _, World.drewN_drewN _ _ _⟩ | exact ⟨rfl, _, Eq.trans (World.drewN_drewN _ _ _) (congrArg (World.drewN _) (Nat.add_assoc _ _ _))⟩)))
             repeat (go_quiet (first | (go_at_call 80; (with_reducible refine (squelchref08_digits.calls a0_2 t596 _ A12.out).mono ?_); rintro e w' ⟨rfl, ⟨nd, rfl⟩⟩; (try first | exact ⟨rfl, _, World.drewN_drewN _ _ _⟩ | exact ⟨rfl, _, Eq.trans (World.drewN_drewN _ _ _) (congrArg (World.drewN _) (Nat.add_assoc _ _ _))⟩)) | (go_at_call 80; (with_reducible refine (squelchref08_digits.calls a0_3 t597 _ A15.out).mono ?_); rintro e w' ⟨rfl, ⟨nd, rfl⟩⟩; (try first | exact ⟨rfl, _, World.drewN_drewN _ _ _⟩ | exact ⟨rfl, _, Eq.trans (World.drewN_drewN _ _ _) (congrArg (World.drewN _) (Nat.add_assoc _ _ _))⟩)) | (go_at_call 80; (with_reducible refine (squelchref08_digits.calls a0_4 t598 _ A18.out).mono ?_); rintro e w' ⟨rfl, ⟨nd, rfl⟩⟩; (try first | exact ⟨rfl, _, World.drewN_drewN _ _ _⟩ | exact ⟨rfl, _, Eq.trans (World.drewN_drewN _ _ _) (congrArg (World.drewN _) (Nat.add_assoc _ _ _))⟩)) | (go_at_call 80; (with_reducible refine (squelchref08_digits.calls a0_5 t599 _ A21.out).mono ?_); rintro e w' ⟨rfl, ⟨nd, rfl⟩⟩; (try first | exact ⟨rfl, _, World.drewN_drewN _ _ _⟩ | exact ⟨rfl, _, Eq.trans (World.drewN_drewN _ _ _) (congrArg (World.drewN _) (Nat.add_assoc _ _ _))⟩))); try go_wp2_with (first | (go_at_call 80; (with_reducible refine (squelchref08_digits.calls a0_2 t596 _ A12.out).mono ?_); rintro e w' ⟨rfl, ⟨nd, rfl⟩⟩; (try first | exact ⟨rfl, _, World.drewN_drewN _ _ _⟩ | exact ⟨rfl, _, Eq.trans (World.drewN_drewN _ _ _) (congrArg (World.drewN _) (Nat.add_assoc _ _ _))⟩)) | (go_at_call 80; (with_reducible refine (squelchref08_digits.calls a0_3 t597 _ A15.out).mono ?_); rintro e w' ⟨rfl, ⟨nd, rfl⟩⟩; (try first | exact ⟨rfl, _, World.drewN_drewN _ _ _⟩ | exact ⟨rfl, _, Eq.trans (World.drewN_drewN _ _ _) (congrArg (World.drewN _) (Nat.add_assoc _ _ _))⟩)) | (go_at_call 80; (with_reducible refine (squelchref08_digits.calls a0_4 t598 _ A18.out).mono ?_); rintro e w' ⟨rfl, ⟨nd, rfl⟩⟩; (try first | exact ⟨rfl, _, World.drewN_drewN _ _ _⟩ | exact ⟨rfl, _, Eq.trans (World.drewN_drewN _ _ _) (congrArg (World.drewN _) (Nat.add_assoc _ _ _))⟩)) | (go_at_call 80; (with_reducible refine (squelchref08_digits.calls a0_5 t599 _ A21.out).mono ?_); rintro e w' ⟨rfl, ⟨nd, rfl⟩⟩; (try first | exact ⟨rfl, _, World.drewN_drewN _ _ _⟩ | exact ⟨rfl, _, Eq.trans (World.drewN_drewN _ _ _) (congrArg (World.drewN _) (Nat.add_assoc _ _ _))⟩))))
             go_ret
             exact ⟨by first | rfl | (simp [errW_none, errW_some] <;> rfl) | (simp [*, errW_none, errW_some] <;> rfl), by repeat (first | (with_reducible first | exact HB.out | apply below_alloc | apply pw_below_drewN | apply below_drew1 | refine below_set ?_ GE595.out) | exact HB.out)⟩
            ·rw [if_neg c22] at H
             exact absurd H (by simp)
           ·rw [if_neg c20] at H
            exact absurd H (by simp)
          ·rw [if_neg c19] at H
           exact absurd H (by simp)
         ·rw [if_neg c17] at H
          exact absurd H (by simp)
        ·rw [if_neg c16] at H
         exact absurd H (by simp)
       ·rw [if_neg c14] at H
        exact absurd H (by simp)
      ·rw [if_neg c13] at H
       exact absurd H (by simp)
     ·rw [if_neg c11] at H
      exact absurd H (by simp)

end Go.Proofs.YtpmieapgbdbabaaDoor.QAll
end

section
/- What the walks take from the library's shelf, at this program: written by the kit's own tools, the wanted ones picked by a program of this session (wip/pp/shelf.py). -/
namespace Go.Proofs
open Go.Shelf
def Tryd.lays156_ren : Go.Shelf.Ren := ⟨fun | 156 => 77 | 165 => 97 | 166 => 66 | 169 => 67 | 240 => 90 | 241 => 112 | 276 => 104 | 277 => 131 | n => n, fun | 31 => 121 | 9 => 9 | 3 => 3 | 4 => 4 | 0 => 0 | 20 => 20 | 72 => 106 | 76 => 110 | 70 => 103 | 37 => 104 | 75 => 109 | 127 => 137 | 164 => 153 | 5 => 5 | 80 => 112 | n => n, fun | n => n⟩
theorem Tryd.lays156 : Go.Proofs.Lays.n156 Tryd.prog Tryd.lays156_ren := {
  mixed := by kernel_rfl
  f156 := Tryd.func77.trans (congrArg some (by kernel_rfl))
  f165 := Tryd.func97.trans (congrArg some (by kernel_rfl))
  f166 := Tryd.func66.trans (congrArg some (by kernel_rfl))
  f169 := Tryd.func67.trans (congrArg some (by kernel_rfl))
  f240 := Tryd.func90.trans (congrArg some (by kernel_rfl))
  f241 := Tryd.func112.trans (congrArg some (by kernel_rfl))
  f276 := Tryd.func104.trans (congrArg some (by kernel_rfl))
  f277 := Tryd.func131.trans (congrArg some (by kernel_rfl))
  t0 := Tryd.underlying0
  a0 := Tryd.isAgg0
  z0 := Tryd.sizeOf0
  v0 := Tryd.zeroValue0
  t3 := Tryd.underlying3
  a3 := Tryd.isAgg3
  z3 := Tryd.sizeOf3
  v3 := Tryd.zeroValue3
  t4 := Tryd.underlying4
  a4 := Tryd.isAgg4
  z4 := Tryd.sizeOf4
  v4 := Tryd.zeroValue4
  t9 := Tryd.underlying9
  a9 := Tryd.isAgg9
  z9 := Tryd.sizeOf9
  v9 := Tryd.zeroValue9
  t20 := Tryd.underlying20
  a20 := Tryd.isAgg20
  z20 := Tryd.sizeOf20
  v20 := Tryd.zeroValue20
  t31 := Tryd.underlying121
  a31 := Tryd.isAgg121
  z31 := Tryd.sizeOf121
  v31 := Tryd.zeroValue121
  t37 := Tryd.underlying104
  a37 := Tryd.isAgg104
  z37 := Tryd.sizeOf104
  v37 := Tryd.zeroValue104
  t70 := Tryd.underlying103
  a70 := Tryd.isAgg103
  z70 := Tryd.sizeOf103
  v70 := Tryd.zeroValue103
  t72 := Tryd.underlying106
  a72 := Tryd.isAgg106
  z72 := Tryd.sizeOf106
  v72 := Tryd.zeroValue106
  t75 := Tryd.underlying109
  a75 := Tryd.isAgg109
  z75 := Tryd.sizeOf109
  v75 := Tryd.zeroValue109
  t76 := Tryd.underlying110
  a76 := Tryd.isAgg110
  z76 := Tryd.sizeOf110
  v76 := Tryd.zeroValue110
  t127 := Tryd.underlying137
  a127 := Tryd.isAgg137
  z127 := Tryd.sizeOf137
  v127 := Tryd.zeroValue137
  t164 := Tryd.underlying153
  a164 := Tryd.isAgg153
  z164 := Tryd.sizeOf153
  v164 := Tryd.zeroValue153 }
theorem Tryd.Builder_Extra_156 : Builder.Extra Tryd.prog Tryd.lays156_ren := {
  sizeBuilder := by kernel_rfl
  liesBuilder := by kernel_rfl
  t5 := Tryd.underlying5
  a5 := Tryd.isAgg5
  z5 := Tryd.sizeOf5
  v5 := Tryd.zeroValue5
  infoByte := by kernel_rfl
  cellsByte := by kernel_rfl
  sizeByte := by kernel_rfl
  neB5 := by decide }
open Go.RowKit in
theorem Tryd.strings_Join (bk o c : Nat) (xs : List ByteArray) (sep : ByteArray) (w : World) (hcells : ∀ (j : Nat) x, xs[j]? = some x → w.cell? ⟨bk, o + j, none⟩ = some (.string x)) (hbk : bk < w.heap.size) (hN : xs.length ≤ 140737488355328) (hcap : xs.length ≤ c) (hlen : (Lib.join (xs.map (·.data.toList)) sep.data.toList).length ≤ 140737488355328) :
    Calls Tryd.prog 77 #[.slice (some ⟨bk, o, none⟩) xs.length c, .string sep] w fun e w' => e = .returned (.string ⟨(Lib.join (xs.map (·.data.toList)) sep.data.toList).toArray⟩) ∧ Below w.heap.size w w' := Any.strings_Join Tryd.lays156 Tryd.Builder_Extra_156 bk o c xs sep w hcells hbk hN hcap hlen
def Tryd.laysM171_ren : Go.Shelf.Ren := ⟨fun | 171 => 69 | 243 => 91 | 246 => 105 | 283 => 120 | 284 => 121 | 285 => 122 | 286 => 123 | 129 => 139 | 317 => 138 | 318 => 140 | 319 => 141 | 320 => 142 | 337 => 150 | 338 => 151 | n => n, fun | 3 => 3 | 9 => 9 | 2 => 2 | 4 => 4 | 171 => 168 | 0 => 0 | 53 => 169 | 37 => 104 | 5 => 5 | 173 => 172 | 212 => 186 | 51 => 187 | 20 => 20 | 213 => 188 | 46 => 129 | 232 => 203 | 233 => 204 | n => n, fun | 17 => 3 | 18 => 6 | 19 => 7 | n => n⟩
theorem Tryd.laysM171 : Go.Proofs.LaysM.n171 Tryd.prog Tryd.laysM171_ren := {
  mixed := by kernel_rfl
  f129 := Tryd.func139.trans (congrArg some (by kernel_rfl))
  f171 := Tryd.func69.trans (congrArg some (by kernel_rfl))
  f243 := Tryd.func91.trans (congrArg some (by kernel_rfl))
  f246 := Tryd.func105.trans (congrArg some (by kernel_rfl))
  f283 := Tryd.func120.trans (congrArg some (by kernel_rfl))
  f284 := Tryd.func121.trans (congrArg some (by kernel_rfl))
  f285 := Tryd.func122.trans (congrArg some (by kernel_rfl))
  f286 := Tryd.func123.trans (congrArg some (by kernel_rfl))
  f317 := Tryd.func138.trans (congrArg some (by kernel_rfl))
  f318 := Tryd.func140.trans (congrArg some (by kernel_rfl))
  f319 := Tryd.func141.trans (congrArg some (by kernel_rfl))
  f320 := Tryd.func142.trans (congrArg some (by kernel_rfl))
  f337 := Tryd.func150.trans (congrArg some (by kernel_rfl))
  f338 := Tryd.func151.trans (congrArg some (by kernel_rfl))
  t0 := Tryd.underlying0
  a0 := Tryd.isAgg0
  z0 := Tryd.sizeOf0
  v0 := Tryd.zeroValue0
  t2 := Tryd.underlying2
  a2 := Tryd.isAgg2
  z2 := Tryd.sizeOf2
  v2 := Tryd.zeroValue2
  t3 := Tryd.underlying3
  a3 := Tryd.isAgg3
  z3 := Tryd.sizeOf3
  v3 := Tryd.zeroValue3
  t4 := Tryd.underlying4
  a4 := Tryd.isAgg4
  z4 := Tryd.sizeOf4
  v4 := Tryd.zeroValue4
  t5 := Tryd.underlying5
  a5 := Tryd.isAgg5
  z5 := Tryd.sizeOf5
  v5 := Tryd.zeroValue5
  t9 := Tryd.underlying9
  a9 := Tryd.isAgg9
  z9 := Tryd.sizeOf9
  v9 := Tryd.zeroValue9
  t20 := Tryd.underlying20
  a20 := Tryd.isAgg20
  z20 := Tryd.sizeOf20
  v20 := Tryd.zeroValue20
  t37 := Tryd.underlying104
  a37 := Tryd.isAgg104
  z37 := Tryd.sizeOf104
  v37 := Tryd.zeroValue104
  t46 := Tryd.underlying129
  a46 := Tryd.isAgg129
  z46 := Tryd.sizeOf129
  v46 := Tryd.zeroValue129
  t51 := Tryd.underlying187
  a51 := Tryd.isAgg187
  z51 := Tryd.sizeOf187
  v51 := Tryd.zeroValue187
  t53 := Tryd.underlying169
  a53 := Tryd.isAgg169
  z53 := Tryd.sizeOf169
  v53 := Tryd.zeroValue169
  t171 := Tryd.underlying168
  a171 := Tryd.isAgg168
  z171 := Tryd.sizeOf168
  v171 := Tryd.zeroValue168
  t173 := Tryd.underlying172
  a173 := Tryd.isAgg172
  z173 := Tryd.sizeOf172
  v173 := Tryd.zeroValue172
  t212 := Tryd.underlying186
  a212 := Tryd.isAgg186
  z212 := Tryd.sizeOf186
  v212 := Tryd.zeroValue186
  t213 := Tryd.underlying188
  a213 := Tryd.isAgg188
  z213 := Tryd.sizeOf188
  t232 := Tryd.underlying203
  a232 := Tryd.isAgg203
  z232 := Tryd.sizeOf203
  v232 := Tryd.zeroValue203
  t233 := Tryd.underlying204
  a233 := Tryd.isAgg204
  z233 := Tryd.sizeOf204
  v233 := Tryd.zeroValue204
  g17 := by kernel_rfl
  g18 := by kernel_rfl
  g19 := by kernel_rfl
  i0 := by kernel_rfl
  i2 := by kernel_rfl
  i3 := by kernel_rfl
  i4 := by kernel_rfl
  i5 := by kernel_rfl
  i9 := by kernel_rfl
  i20 := by kernel_rfl
  i37 := by kernel_rfl
  i46 := by kernel_rfl
  i51 := by kernel_rfl
  i53 := by kernel_rfl
  i171 := by kernel_rfl
  i173 := by kernel_rfl
  i212 := by kernel_rfl
  i232 := by kernel_rfl
  i233 := by kernel_rfl
  m17 := by kernel_rfl
  m18 := by kernel_rfl
  m19 := by kernel_rfl }
open Go.RowKit Go.Sort Go.Lib in
theorem Tryd.strconv_Itoa (n : Int) (h0 : -9223372036854775808 ≤ n) (h1 : n ≤ 9223372036854775807) (w : World) (htab : Lib.TabIs Tryd.prog w "internal/strconv.uint64pow10" .u64 Lib.pow10Tab) :
    Calls Tryd.prog 69 #[.int .i64 n] w fun e w' => e = .returned (.string ⟨(Lib.itoa n).toArray⟩) ∧ ∃ k os, w' = grow (w.drewN k) os := Any.strconv_Itoa Tryd.laysM171 n h0 h1 w htab
def Tryd.laysC172_ren : Go.Shelf.Ren := ⟨fun | 172 => 72 | 244 => 93 | 245 => 94 | 247 => 107 | 279 => 108 | 280 => 109 | 281 => 110 | 282 => 111 | 287 => 128 | 316 => 129 | 171 => 69 | 205 => 130 | 321 => 145 | 322 => 146 | 243 => 91 | 246 => 105 | 283 => 120 | 284 => 121 | 285 => 122 | 286 => 123 | 129 => 139 | 317 => 138 | 318 => 140 | 319 => 141 | 320 => 142 | 337 => 150 | 338 => 151 | n => n, fun | 9 => 9 | 3 => 3 | 75 => 109 | 76 => 110 | 4 => 4 | 5 => 5 | 167 => 157 | 37 => 104 | 0 => 0 | 85 => 158 | 2 => 2 | 168 => 160 | 53 => 169 | 175 => 176 | 46 => 129 | 210 => 179 | 127 => 137 | 145 => 196 | 143 => 194 | 21 => 21 | 171 => 168 | 173 => 172 | 212 => 186 | 51 => 187 | 20 => 20 | 213 => 188 | 232 => 203 | 233 => 204 | 80 => 112 | n => n, fun | 15 => 1 | 16 => 2 | 17 => 3 | 18 => 6 | 19 => 7 | n => n⟩
theorem Tryd.laysC172 : Go.Proofs.LaysC.n172 Tryd.prog Tryd.laysC172_ren := {
  mixed := by kernel_rfl
  f129 := Tryd.func139.trans (congrArg some (by kernel_rfl))
  f171 := Tryd.func69.trans (congrArg some (by kernel_rfl))
  f172 := Tryd.func72.trans (congrArg some (by kernel_rfl))
  f205 := Tryd.func130.trans (congrArg some (by kernel_rfl))
  f243 := Tryd.func91.trans (congrArg some (by kernel_rfl))
  f244 := Tryd.func93.trans (congrArg some (by kernel_rfl))
  f245 := Tryd.func94.trans (congrArg some (by kernel_rfl))
  f246 := Tryd.func105.trans (congrArg some (by kernel_rfl))
  f247 := Tryd.func107.trans (congrArg some (by kernel_rfl))
  f279 := Tryd.func108.trans (congrArg some (by kernel_rfl))
  f280 := Tryd.func109.trans (congrArg some (by kernel_rfl))
  f281 := Tryd.func110.trans (congrArg some (by kernel_rfl))
  f282 := Tryd.func111.trans (congrArg some (by kernel_rfl))
  f283 := Tryd.func120.trans (congrArg some (by kernel_rfl))
  f284 := Tryd.func121.trans (congrArg some (by kernel_rfl))
  f285 := Tryd.func122.trans (congrArg some (by kernel_rfl))
  f286 := Tryd.func123.trans (congrArg some (by kernel_rfl))
  f287 := Tryd.func128.trans (congrArg some (by kernel_rfl))
  f316 := Tryd.func129.trans (congrArg some (by kernel_rfl))
  f317 := Tryd.func138.trans (congrArg some (by kernel_rfl))
  f318 := Tryd.func140.trans (congrArg some (by kernel_rfl))
  f319 := Tryd.func141.trans (congrArg some (by kernel_rfl))
  f320 := Tryd.func142.trans (congrArg some (by kernel_rfl))
  f321 := Tryd.func145.trans (congrArg some (by kernel_rfl))
  f322 := Tryd.func146.trans (congrArg some (by kernel_rfl))
  f337 := Tryd.func150.trans (congrArg some (by kernel_rfl))
  f338 := Tryd.func151.trans (congrArg some (by kernel_rfl))
  t0 := Tryd.underlying0
  a0 := Tryd.isAgg0
  z0 := Tryd.sizeOf0
  v0 := Tryd.zeroValue0
  t2 := Tryd.underlying2
  a2 := Tryd.isAgg2
  z2 := Tryd.sizeOf2
  v2 := Tryd.zeroValue2
  t3 := Tryd.underlying3
  a3 := Tryd.isAgg3
  z3 := Tryd.sizeOf3
  v3 := Tryd.zeroValue3
  t4 := Tryd.underlying4
  a4 := Tryd.isAgg4
  z4 := Tryd.sizeOf4
  v4 := Tryd.zeroValue4
  t5 := Tryd.underlying5
  a5 := Tryd.isAgg5
  z5 := Tryd.sizeOf5
  v5 := Tryd.zeroValue5
  t9 := Tryd.underlying9
  a9 := Tryd.isAgg9
  z9 := Tryd.sizeOf9
  v9 := Tryd.zeroValue9
  t20 := Tryd.underlying20
  a20 := Tryd.isAgg20
  z20 := Tryd.sizeOf20
  v20 := Tryd.zeroValue20
  t21 := Tryd.underlying21
  a21 := Tryd.isAgg21
  z21 := Tryd.sizeOf21
  v21 := Tryd.zeroValue21
  t37 := Tryd.underlying104
  a37 := Tryd.isAgg104
  z37 := Tryd.sizeOf104
  v37 := Tryd.zeroValue104
  t46 := Tryd.underlying129
  a46 := Tryd.isAgg129
  z46 := Tryd.sizeOf129
  v46 := Tryd.zeroValue129
  t51 := Tryd.underlying187
  a51 := Tryd.isAgg187
  z51 := Tryd.sizeOf187
  v51 := Tryd.zeroValue187
  t53 := Tryd.underlying169
  a53 := Tryd.isAgg169
  z53 := Tryd.sizeOf169
  v53 := Tryd.zeroValue169
  t75 := Tryd.underlying109
  a75 := Tryd.isAgg109
  z75 := Tryd.sizeOf109
  v75 := Tryd.zeroValue109
  t76 := Tryd.underlying110
  a76 := Tryd.isAgg110
  z76 := Tryd.sizeOf110
  v76 := Tryd.zeroValue110
  t85 := Tryd.underlying158
  a85 := Tryd.isAgg158
  z85 := Tryd.sizeOf158
  v85 := Tryd.zeroValue158
  t127 := Tryd.underlying137
  a127 := Tryd.isAgg137
  z127 := Tryd.sizeOf137
  v127 := Tryd.zeroValue137
  t143 := Tryd.underlying194
  a143 := Tryd.isAgg194
  z143 := Tryd.sizeOf194
  v143 := Tryd.zeroValue194
  t145 := Tryd.underlying196
  a145 := Tryd.isAgg196
  z145 := Tryd.sizeOf196
  v145 := Tryd.zeroValue196
  t167 := Tryd.underlying157
  a167 := Tryd.isAgg157
  z167 := Tryd.sizeOf157
  v167 := Tryd.zeroValue157
  t168 := Tryd.underlying160
  a168 := Tryd.isAgg160
  z168 := Tryd.sizeOf160
  v168 := Tryd.zeroValue160
  t171 := Tryd.underlying168
  a171 := Tryd.isAgg168
  z171 := Tryd.sizeOf168
  v171 := Tryd.zeroValue168
  t173 := Tryd.underlying172
  a173 := Tryd.isAgg172
  z173 := Tryd.sizeOf172
  v173 := Tryd.zeroValue172
  t175 := Tryd.underlying176
  a175 := Tryd.isAgg176
  z175 := Tryd.sizeOf176
  v175 := Tryd.zeroValue176
  t210 := Tryd.underlying179
  a210 := Tryd.isAgg179
  z210 := Tryd.sizeOf179
  v210 := Tryd.zeroValue179
  t212 := Tryd.underlying186
  a212 := Tryd.isAgg186
  z212 := Tryd.sizeOf186
  v212 := Tryd.zeroValue186
  t213 := Tryd.underlying188
  a213 := Tryd.isAgg188
  z213 := Tryd.sizeOf188
  t232 := Tryd.underlying203
  a232 := Tryd.isAgg203
  z232 := Tryd.sizeOf203
  v232 := Tryd.zeroValue203
  t233 := Tryd.underlying204
  a233 := Tryd.isAgg204
  z233 := Tryd.sizeOf204
  v233 := Tryd.zeroValue204
  g15 := by kernel_rfl
  g16 := by kernel_rfl
  g17 := by kernel_rfl
  g18 := by kernel_rfl
  g19 := by kernel_rfl
  t80 := Tryd.underlying112
  a80 := Tryd.isAgg112
  z80 := Tryd.sizeOf112
  v80 := Tryd.zeroValue112
  i0 := by kernel_rfl
  i2 := by kernel_rfl
  i3 := by kernel_rfl
  i4 := by kernel_rfl
  i5 := by kernel_rfl
  i9 := by kernel_rfl
  i20 := by kernel_rfl
  i21 := by kernel_rfl
  i37 := by kernel_rfl
  i46 := by kernel_rfl
  i51 := by kernel_rfl
  i53 := by kernel_rfl
  i75 := by kernel_rfl
  i76 := by kernel_rfl
  i80 := by kernel_rfl
  i85 := by kernel_rfl
  i127 := by kernel_rfl
  i143 := by kernel_rfl
  i145 := by kernel_rfl
  i167 := by kernel_rfl
  i168 := by kernel_rfl
  i171 := by kernel_rfl
  i173 := by kernel_rfl
  i175 := by kernel_rfl
  i210 := by kernel_rfl
  i212 := by kernel_rfl
  i232 := by kernel_rfl
  i233 := by kernel_rfl
  m15 := by kernel_rfl
  m16 := by kernel_rfl
  m17 := by kernel_rfl
  m18 := by kernel_rfl
  m19 := by kernel_rfl
  c0 := by kernel_rfl
  c2 := by kernel_rfl
  c3 := by kernel_rfl
  c4 := by kernel_rfl
  c5 := by kernel_rfl
  c9 := by kernel_rfl
  c20 := by kernel_rfl
  c21 := by kernel_rfl
  c37 := by kernel_rfl
  c46 := by kernel_rfl
  c51 := by kernel_rfl
  c53 := by kernel_rfl
  c75 := by kernel_rfl
  c76 := by kernel_rfl
  c80 := by kernel_rfl
  c85 := by kernel_rfl
  c127 := by kernel_rfl
  c143 := by kernel_rfl
  c145 := by kernel_rfl
  c167 := by kernel_rfl
  c168 := by kernel_rfl
  c171 := by kernel_rfl
  c173 := by kernel_rfl
  c175 := by kernel_rfl
  c210 := by kernel_rfl
  c212 := by kernel_rfl
  c213 := by kernel_rfl
  c232 := by kernel_rfl
  c233 := by kernel_rfl }
open Go.RowKit in
theorem Tryd.strconv_Atoi_ok (s : ByteArray) (hmax : s.size ≤ 9223372036854775806) (v : Int) (h : Lib.atoiAll s.data.toList = .ok v) (w : World) :
    Calls Tryd.prog 72 #[.string s] w fun e w' => e = .returned (.tuple #[.int .i64 v, .nilIface]) ∧ (w' = w ∨ ∃ t, w' = Lib.bytesWorld w 5 t) := Any.strconv_Atoi_ok Tryd.laysC172 s hmax v h w
open Go.RowKit in
theorem Tryd.strconv_Atoi_bad (s : ByteArray) (hlim : s.size ≤ 281474976710656) (h1 : ∀ v, Lib.atoiAll s.data.toList ≠ .ok v) (h2 : Lib.atoiAll s.data.toList ≠ .range) (ev : Value) (w : World) (hv : w.cell? ⟨1, 0, none⟩ = some ev) (hev : ev = .nilIface ∨ ∃ te pe, ev = .iface te pe) :
    Calls Tryd.prog 72 #[.string s] w fun e w' => ∃ N, e = .returned (.tuple #[.int .i64 (0), .iface 160 (.pointer (some ⟨N, 0, none⟩))]) ∧ w.heap.size ≤ N ∧ w'.heap[N]? = some (.cells #[.string ⟨#[65, 116, 111, 105]⟩, .string s, ev] 179 (0, 0)) ∧ Below w.heap.size w w' := Any.strconv_Atoi_syntax Tryd.laysC172 s hlim (by cases e : Lib.atoiAll s.data.toList <;> first | rfl | exact absurd e (h1 _) | exact absurd e h2) ev w hv hev
open Go.RowKit in
theorem Tryd.strconv_Atoi_range (s : ByteArray) (hlim : s.size ≤ 281474976710656) (h : Lib.atoiAll s.data.toList = .range) (ev : Value) (w : World) (hv : w.cell? ⟨2, 0, none⟩ = some ev) (hev : ev = .nilIface ∨ ∃ te pe, ev = .iface te pe) :
    Calls Tryd.prog 72 #[.string s] w fun e w' => ∃ N, e = .returned (.tuple #[.int .i64 (Lib.atoiSat s.data.toList), .iface 160 (.pointer (some ⟨N, 0, none⟩))]) ∧ w.heap.size ≤ N ∧ w'.heap[N]? = some (.cells #[.string ⟨#[65, 116, 111, 105]⟩, .string s, ev] 179 (0, 0)) ∧ Below w.heap.size w w' := Any.strconv_Atoi_range Tryd.laysC172 s hlim h ev w hv hev
def Tryd.lays219_ren : Go.Shelf.Ren := ⟨fun | 219 => 106 | 217 => 124 | 225 => 125 | 224 => 126 | 267 => 127 | 266 => 143 | 314 => 144 | n => n, fun | 9 => 9 | 3 => 3 | 4 => 4 | 5 => 5 | 46 => 129 | 146 => 191 | 51 => 187 | n => n, fun | 1 => 0 | n => n⟩
theorem Tryd.lays219 : Go.Proofs.Lays.n219 Tryd.prog Tryd.lays219_ren := {
  mixed := by kernel_rfl
  f217 := Tryd.func124.trans (congrArg some (by kernel_rfl))
  f219 := Tryd.func106.trans (congrArg some (by kernel_rfl))
  f224 := Tryd.func126.trans (congrArg some (by kernel_rfl))
  f225 := Tryd.func125.trans (congrArg some (by kernel_rfl))
  f266 := Tryd.func143.trans (congrArg some (by kernel_rfl))
  f267 := Tryd.func127.trans (congrArg some (by kernel_rfl))
  f314 := Tryd.func144.trans (congrArg some (by kernel_rfl))
  t3 := Tryd.underlying3
  a3 := Tryd.isAgg3
  z3 := Tryd.sizeOf3
  v3 := Tryd.zeroValue3
  t4 := Tryd.underlying4
  a4 := Tryd.isAgg4
  z4 := Tryd.sizeOf4
  v4 := Tryd.zeroValue4
  t5 := Tryd.underlying5
  a5 := Tryd.isAgg5
  z5 := Tryd.sizeOf5
  v5 := Tryd.zeroValue5
  t9 := Tryd.underlying9
  a9 := Tryd.isAgg9
  z9 := Tryd.sizeOf9
  v9 := Tryd.zeroValue9
  t46 := Tryd.underlying129
  a46 := Tryd.isAgg129
  z46 := Tryd.sizeOf129
  v46 := Tryd.zeroValue129
  t51 := Tryd.underlying187
  a51 := Tryd.isAgg187
  z51 := Tryd.sizeOf187
  v51 := Tryd.zeroValue187
  t146 := Tryd.underlying191
  a146 := Tryd.isAgg191
  z146 := Tryd.sizeOf191
  v146 := Tryd.zeroValue191
  g1 := by kernel_rfl }
open Go.RowKit Go.Lib in
theorem Tryd.stringslite_Index_one (s : ByteArray) (c : UInt8) (w : World) :
    Calls Tryd.prog 106 #[.string s, .string ⟨#[c]⟩] w fun e w' => e = .returned (.int .i64 (Lib.indexByte s.data.toList c)) ∧ w' = w := Any.stringslite_Index_one Tryd.lays219 s c w
def Tryd.laysM146_ren : Go.Shelf.Ren := ⟨fun | 146 => 79 | 221 => 98 | 268 => 113 | 138 => 114 | 143 => 115 | 195 => 132 | 197 => 133 | 218 => 134 | 219 => 106 | 260 => 147 | 217 => 124 | 225 => 125 | 224 => 126 | 267 => 127 | 266 => 143 | 314 => 144 | n => n, fun | 9 => 9 | 31 => 121 | 3 => 3 | 4 => 4 | 0 => 0 | 105 => 165 | 21 => 21 | 5 => 5 | 46 => 129 | 119 => 199 | 139 => 202 | 138 => 201 | 146 => 191 | 51 => 187 | n => n, fun | 1 => 0 | 3 => 4 | 4 => 5 | n => n⟩
theorem Tryd.laysM146 : Go.Proofs.LaysM.n146 Tryd.prog Tryd.laysM146_ren := {
  mixed := by kernel_rfl
  f138 := Tryd.func114.trans (congrArg some (by kernel_rfl))
  f143 := Tryd.func115.trans (congrArg some (by kernel_rfl))
  f146 := Tryd.func79.trans (congrArg some (by kernel_rfl))
  f195 := Tryd.func132.trans (congrArg some (by kernel_rfl))
  f197 := Tryd.func133.trans (congrArg some (by kernel_rfl))
  f217 := Tryd.func124.trans (congrArg some (by kernel_rfl))
  f218 := Tryd.func134.trans (congrArg some (by kernel_rfl))
  f219 := Tryd.func106.trans (congrArg some (by kernel_rfl))
  f221 := Tryd.func98.trans (congrArg some (by kernel_rfl))
  f224 := Tryd.func126.trans (congrArg some (by kernel_rfl))
  f225 := Tryd.func125.trans (congrArg some (by kernel_rfl))
  f260 := Tryd.func147.trans (congrArg some (by kernel_rfl))
  f266 := Tryd.func143.trans (congrArg some (by kernel_rfl))
  f267 := Tryd.func127.trans (congrArg some (by kernel_rfl))
  f268 := Tryd.func113.trans (congrArg some (by kernel_rfl))
  f314 := Tryd.func144.trans (congrArg some (by kernel_rfl))
  t0 := Tryd.underlying0
  a0 := Tryd.isAgg0
  z0 := Tryd.sizeOf0
  v0 := Tryd.zeroValue0
  t3 := Tryd.underlying3
  a3 := Tryd.isAgg3
  z3 := Tryd.sizeOf3
  v3 := Tryd.zeroValue3
  t4 := Tryd.underlying4
  a4 := Tryd.isAgg4
  z4 := Tryd.sizeOf4
  v4 := Tryd.zeroValue4
  t5 := Tryd.underlying5
  a5 := Tryd.isAgg5
  z5 := Tryd.sizeOf5
  v5 := Tryd.zeroValue5
  t9 := Tryd.underlying9
  a9 := Tryd.isAgg9
  z9 := Tryd.sizeOf9
  v9 := Tryd.zeroValue9
  t21 := Tryd.underlying21
  a21 := Tryd.isAgg21
  z21 := Tryd.sizeOf21
  v21 := Tryd.zeroValue21
  t31 := Tryd.underlying121
  a31 := Tryd.isAgg121
  z31 := Tryd.sizeOf121
  v31 := Tryd.zeroValue121
  t46 := Tryd.underlying129
  a46 := Tryd.isAgg129
  z46 := Tryd.sizeOf129
  v46 := Tryd.zeroValue129
  t51 := Tryd.underlying187
  a51 := Tryd.isAgg187
  z51 := Tryd.sizeOf187
  v51 := Tryd.zeroValue187
  t105 := Tryd.underlying165
  a105 := Tryd.isAgg165
  z105 := Tryd.sizeOf165
  v105 := Tryd.zeroValue165
  t119 := Tryd.underlying199
  a119 := Tryd.isAgg199
  z119 := Tryd.sizeOf199
  t138 := Tryd.underlying201
  a138 := Tryd.isAgg201
  z138 := Tryd.sizeOf201
  v138 := Tryd.zeroValue201
  t139 := Tryd.underlying202
  a139 := Tryd.isAgg202
  z139 := Tryd.sizeOf202
  v139 := Tryd.zeroValue202
  t146 := Tryd.underlying191
  a146 := Tryd.isAgg191
  z146 := Tryd.sizeOf191
  v146 := Tryd.zeroValue191
  g1 := by kernel_rfl
  g3 := by kernel_rfl
  g4 := by kernel_rfl
  i0 := by kernel_rfl
  i3 := by kernel_rfl
  i4 := by kernel_rfl
  i5 := by kernel_rfl
  i9 := by kernel_rfl
  i21 := by kernel_rfl
  i31 := by kernel_rfl
  i46 := by kernel_rfl
  i51 := by kernel_rfl
  i105 := by kernel_rfl
  i138 := by kernel_rfl
  i139 := by kernel_rfl
  i146 := by kernel_rfl
  m1 := by kernel_rfl
  s1_3 := fun w h => Go.Proofs.cell_of_shapedOpen_int (zero := #[.int .i64 0]) (t := 3) h (of_decide_eq_true (by kernel_rfl)) (by kernel_rfl) rfl (by kernel_rfl) (by kernel_rfl) Tryd.underlying3
  m3 := by kernel_rfl
  m4 := by kernel_rfl }
end Go.Proofs
end

section
/- What the walks ask of the package's variables (the two errors of strconv, its table of powers, the search's limit), and that it holds on while nothing that was there is written. -/
set_option linter.unusedVariables false
namespace Go.Proofs.YtpmieapgbdbabaaDoor.QAll
open Go.RowKit Go.Proofs.YtpmieapgbdbabaaDoorW.PrintWords Go.Proofs.YtpmieapgbdbabaaDoorW.PrintLast Go.Proofs.YtpmieapgbdbabaaDoorW.PrintMore
structure EnvW (w : World) : Prop where
  mx : ∃ m, w.cell? ⟨0, 0, none⟩ = some (.int .i64 m)
  syn : ∃ ev, w.cell? ⟨1, 0, none⟩ = some ev ∧ (ev = .nilIface ∨ ∃ te pe, ev = .iface te pe)
  rng : ∃ ev, w.cell? ⟨2, 0, none⟩ = some ev ∧ (ev = .nilIface ∨ ∃ te pe, ev = .iface te pe)
  tab : Lib.TabIs Tryd.prog w "internal/strconv.uint64pow10" .u64 Lib.pow10Tab
theorem EnvW.below {w w' : World} (h : EnvW w) (hb : Below w.heap.size w w') : EnvW w' := by
  obtain ⟨⟨m, hm⟩, ⟨ev, hs, hs2⟩, ⟨ev2, hr, hr2⟩, ht⟩ := h
  refine ⟨⟨m, pw_cell_below hb hm⟩, ⟨ev, pw_cell_below hb hs, hs2⟩, ⟨ev2, pw_cell_below hb hr, hr2⟩, ?_⟩
  unfold Lib.TabIs World.var? at ht ⊢
  cases hg : Tryd.prog.globalNamed "internal/strconv.uint64pow10" with
  | none => simp [hg] at ht
  | some g =>
    simp only [hg, Option.bind_some] at ht ⊢
    have hlt : g < w.heap.size := by
      rcases Nat.lt_or_ge g w.heap.size with h' | h'
      · exact h'
      · simp [Array.getElem?_eq_none h'] at ht
    rw [hb.block g hlt]
    exact ht
end Go.Proofs.YtpmieapgbdbabaaDoor.QAll
end

section
/- strconv.Itoa of a number from 0 to 99, by the shelf's contract: its digits. -/
set_option linter.unusedVariables false
namespace Go.Proofs.YtpmieapgbdbabaaDoor.QAll
open Go.RowKit Go.Proofs.YtpmieapgbdbabaaDoorW.PrintWords Go.Proofs.YtpmieapgbdbabaaDoorW.PrintLast Go.Proofs.YtpmieapgbdbabaaDoorW.PrintMore
def strconv_Itoa_69.f (a0 : Int) : Option ByteArray := if 0 ≤ a0 ∧ a0 < 100 then some ⟨(Lib.decDigits a0.toNat).toArray⟩ else none
end Go.Proofs.YtpmieapgbdbabaaDoor.QAll
end

section
/- strings.Join and strconv.Itoa, in the shape that the walks take them. -/
set_option linter.unusedVariables false
set_option linter.unusedSimpArgs false
namespace Go.Proofs.YtpmieapgbdbabaaDoor.QAll
open Go.RowKit Go.Shelf Go.Proofs.YtpmieapgbdbabaaDoorW.PrintWords Go.Proofs.YtpmieapgbdbabaaDoorW.PrintLast Go.Proofs.YtpmieapgbdbabaaDoorW.PrintMore

def joinL (l : List ByteArray) (sep : ByteArray) : List UInt8 := Lib.join (l.map (·.data.toList)) sep.data.toList
def joinS (l : List ByteArray) (sep : ByteArray) : ByteArray := ⟨(joinL l sep).toArray⟩
def strings_Join.f (l0 : List ByteArray) (a1 : ByteArray) : Option ByteArray := if 0 < l0.length ∧ l0.length ≤ 1000000 ∧ (joinL l0 a1).length ≤ 140737488355328 then some (joinS l0 a1) else none
theorem strings_Join.calls (A0 : Option Addr) (c0 : Nat) (l0 : List ByteArray) (a1 : ByteArray) (r : ByteArray) (w : World) (hr0 : Kd.C Kd.string w A0 l0.length l0) (hc0 : l0.length ≤ c0) (h : strings_Join.f l0 a1 = some r) :
    Calls Tryd.prog 77 #[.slice A0 l0.length c0, .string a1] w fun e w' => e = .returned (.string r) ∧ Below w.heap.size w w' := by
  unfold strings_Join.f at h
  split at h
  case isFalse => cases h
  rename_i hs
  obtain rfl := Option.some.inj h
  obtain ⟨h0, h1, h2⟩ := hs
  obtain ⟨ad, rfl, hcs⟩ := hr0.2.2 h0
  have hcell : ∀ (j : Nat) x, l0[j]? = some x → w.cell? (ad.add j) = some (.string x) := by
    intro j x hj
    obtain ⟨c, _, hk, hcc⟩ := hcs j x hj
    have hk' : c = [.string x] := hk
    subst hk'
    have := hcc 0 _ rfl
    rw [show Kd.string.sz = 1 from rfl, Nat.mul_one, Nat.add_zero] at this
    exact this
  obtain ⟨bk, o, sp⟩ := ad
  have hsp : sp = none := by
    have h' := hcell 0 _ (List.getElem?_eq_getElem h0)
    unfold Addr.add at h'
    rw [if_pos rfl] at h'
    unfold World.cell? at h'
    split at h'
    · split at h'
      · cases h'
      · rename_i hn
        cases sp with
        | none => rfl
        | some x => exact absurd rfl hn
    · cases h'
  subst hsp
  have hc : ∀ (j : Nat) x, l0[j]? = some x → w.cell? ⟨bk, o + j, none⟩ = some (.string x) := by
    intro j x hj
    have := hcell j x hj
    unfold Addr.add at this
    split at this
    · rename_i h0'
      subst h0'
      exact this
    · exact this
  refine Tryd.strings_Join bk o c0 l0 a1 w hc ?_ (by omega) hc0 h2
  exact World.block_lt_of_cell? w _ (hc 0 _ (List.getElem?_eq_getElem h0))
theorem below_grown (w : World) (k : Nat) (os : Array Obj) : Below w.heap.size w (Go.Sort.grow (w.drewN k) os) := Lib.below_grow _ w (Nat.le_refl _) k os
def itoaB (n : Int) : ByteArray := ⟨(Lib.itoa n).toArray⟩
theorem itoa_any (n : Int) (h0 : -9223372036854775808 ≤ n) (h1 : n ≤ 9223372036854775807) (w : World) (hE : EnvW w) :
    Calls Tryd.prog 69 #[.int .i64 n] w fun e w' => e = .returned (.string (itoaB n)) ∧ Below w.heap.size w w' := by
  refine (Tryd.strconv_Itoa n h0 h1 w hE.tab).mono ?_
  rintro e w' ⟨rfl, k, os, rfl⟩
  exact ⟨rfl, below_grown w k os⟩
end Go.Proofs.YtpmieapgbdbabaaDoor.QAll
end

section
/- Walks, written by a program of this session (wip/pp): a Go function comes to what the Lean function beside it tells. -/
namespace Go.Proofs.YtpmieapgbdbabaaDoor.QAll
open Go.RowKit Go.Proofs.YtpmieapgbdbabaaDoorW.PrintWords Go.Proofs.YtpmieapgbdbabaaDoorW.PrintLast Go.Proofs.YtpmieapgbdbabaaDoorW.PrintMore
attribute [local go_sem] max2_int min2_int max_two min_two max_three min_three max_four min_four
set_option linter.unusedVariables false
set_option linter.unusedSimpArgs false

def call_letter.f (a0 : Int) : Option (Bool) := if a0 ≥ 65 then (if a0 ≤ 90 then (some true) else (if a0 ≥ 48 then (some (decide (a0 ≤ 57))) else (some false))) else (if a0 ≥ 48 then (some (decide (a0 ≤ 57))) else (some false))
end Go.Proofs.YtpmieapgbdbabaaDoor.QAll
end

section
/- call.Right, walked by hand: it tells whether all bytes of the base are letters or digits, and the lengths and the number are in their ranges, for every call. -/
set_option linter.unusedVariables false
set_option linter.unusedSimpArgs false
namespace Go.Proofs.YtpmieapgbdbabaaDoor.QAll
open Go.RowKit Go.Proofs.YtpmieapgbdbabaaDoorW.PrintWords Go.Proofs.YtpmieapgbdbabaaDoorW.PrintLast Go.Proofs.YtpmieapgbdbabaaDoorW.PrintMore

/-- May the byte c stand in a call? -/
def letB (c : Int) : Bool := decide (65 ≤ c ∧ c ≤ 90 ∨ 48 ≤ c ∧ c ≤ 57)
def letsB (s : ByteArray) : Bool := s.data.toList.all fun c => letB c.toNat
theorem bt_data (s : ByteArray) (j : Nat) (h : j < s.size) : bt s j = ((s.data.toList[j]'(by simpa using h)).toNat : Int) := by
  unfold bt
  rw [dif_pos (by simpa using h)]
  rfl
def rightB (s : ByteArray) (n : Int) : Bool := letsB s && (decide (1 ≤ s.size) && (decide (s.size ≤ 6) && (decide (0 ≤ n) && decide (n ≤ 15))))
def call_Right.f (a0_0 : ByteArray) (a0_1 : Int) : Option Bool := if a0_0.size ≤ 9223372036854775807 then some (rightB a0_0 a0_1) else none

end Go.Proofs.YtpmieapgbdbabaaDoor.QAll
end

section
/- Walks, written by a program of this session (wip/pp): a Go function comes to what the Lean function beside it tells. -/
namespace Go.Proofs.YtpmieapgbdbabaaDoor.QAll
open Go.RowKit Go.Proofs.YtpmieapgbdbabaaDoorW.PrintWords Go.Proofs.YtpmieapgbdbabaaDoorW.PrintLast Go.Proofs.YtpmieapgbdbabaaDoorW.PrintMore
attribute [local go_sem] max2_int min2_int max_two min_two max_three min_three max_four min_four
set_option linter.unusedVariables false
set_option linter.unusedSimpArgs false

def call_bit.f (a0 : Bool) (a1 : Int) : Option (Int) := if a0 = true then (some a1) else (some 0)
end Go.Proofs.YtpmieapgbdbabaaDoor.QAll
end

section
/- call.Put, walked by hand: the seven bytes of a right call, or none and ErrCall, for every call. -/
set_option linter.unusedVariables false
set_option linter.unusedSimpArgs false
namespace Go.Proofs.YtpmieapgbdbabaaDoor.QAll
open Go.RowKit Go.Proofs.YtpmieapgbdbabaaDoorW.PrintWords Go.Proofs.YtpmieapgbdbabaaDoorW.PrintLast Go.Proofs.YtpmieapgbdbabaaDoorW.PrintMore

/-- The i-th letter's byte. -/
def putAt (s : ByteArray) (i : Nat) : Int := if i < s.size then bt s i * 2 else 64
/-- The last byte. -/
def putEnd (n : Int) (mark last : Bool) : Int := (if mark = true then 128 else 0) + 96 + 2 * n + (if last = true then 1 else 0)
def putL (s : ByteArray) (n : Int) (mark last : Bool) : List Int := [putAt s 0, putAt s 1, putAt s 2, putAt s 3, putAt s 4, putAt s 5, putEnd n mark last]
def call_Put.f (a0_0 : ByteArray) (a0_1 : Int) (a1 a2 : Bool) : Option (ByteArray × Int) :=
  if a0_0.size ≤ 9223372036854775807 then (if rightB a0_0 a0_1 = true then some (strOfNums (putL a0_0 a0_1 a1 a2), 0) else some (⟨#[]⟩, 12)) else none

/-- Behind k rounds: the array in block B. -/
def PutAt (s : ByteArray) (B k : Nat) (w : World) : Prop := ∃ cur, w.heap[B]? = some (.cells cur 128 (0, 0)) ∧ cur.size = 7 ∧ ∀ j : Nat, j < k → cur[j]? = some (.int .u8 (putAt s j))
theorem PutAt.cell {s : ByteArray} {B k : Nat} {w : World} (h : PutAt s B k w) (j : Nat) (hj : j < 7) : ∃ v, w.cell? ⟨B, j, none⟩ = some v := by
  obtain ⟨cur, hb, hm, hc⟩ := h
  simp only [World.cell?, hb]
  exact ⟨cur[j]'(by omega), Array.getElem?_eq_getElem (by omega)⟩
theorem PutAt.frozen {s : ByteArray} {B k : Nat} {w : World} (h : PutAt s B k w) (j : Nat) : w.frozen? ⟨B, j, none⟩ = false := by
  obtain ⟨cur, hb, hm, hc⟩ := h
  simp [World.frozen?, hb]
theorem PutAt.set {s : ByteArray} {B k : Nat} {w : World} (h : PutAt s B k w) (x : Value) : PutAt s B k (w.setCell ⟨B, k, none⟩ x) := by
  obtain ⟨cur, hb, hm, hc⟩ := h
  refine ⟨cur.setIfInBounds k x, ?_, by simpa using hm, fun j hj => ?_⟩
  · simp [World.setCell, Array.getElem?_modify, hb]
  · rw [Array.getElem?_setIfInBounds, if_neg (by omega), hc j hj]
end Go.Proofs.YtpmieapgbdbabaaDoor.QAll
end

section
/- call.upper, walked by hand: a word with its small letters made great, for every word. -/
set_option linter.unusedVariables false
set_option linter.unusedSimpArgs false
namespace Go.Proofs.YtpmieapgbdbabaaDoor.QAll
open Go.RowKit Go.Proofs.YtpmieapgbdbabaaDoorW.PrintWords Go.Proofs.YtpmieapgbdbabaaDoorW.PrintLast Go.Proofs.YtpmieapgbdbabaaDoorW.PrintMore

/-- A small letter made great. -/
def upI (c : Int) : Int := if 97 ≤ c ∧ c ≤ 122 then c - 97 + 65 else c
def upL (s : ByteArray) : List Int := (bytesOf s).map upI
def upperS (s : ByteArray) : ByteArray := strOfNums (upL s)
def call_upper.f (a0 : ByteArray) : Option ByteArray := if a0.size ≤ 9223372036854775807 then some (upperS a0) else none
/-- Behind k rounds: block B holds the first k made great, the others as they were. -/
def UpAt (s : ByteArray) (B k : Nat) (w : World) : Prop := ∃ cur m, w.heap[B]? = some (.cells cur 5 (m, m + 1)) ∧ s.size ≤ m ∧
  ∀ j : Nat, j < s.size → cur[j]? = some (.int .u8 (if j < k then upI (bt s j) else bt s j))
theorem UpAt.cell {s : ByteArray} {B k : Nat} {w : World} (h : UpAt s B k w) (j : Nat) (hj : j < s.size) : w.cell? ⟨B, j, none⟩ = some (.int .u8 (if j < k then upI (bt s j) else bt s j)) := by
  obtain ⟨cur, m, hb, hm, hc⟩ := h
  simp only [World.cell?, hb]
  exact hc j hj
theorem UpAt.frozen {s : ByteArray} {B k : Nat} {w : World} (h : UpAt s B k w) (j : Nat) (hj : j < s.size) : w.frozen? ⟨B, j, none⟩ = false := by
  obtain ⟨cur, m, hb, hm, hc⟩ := h
  simp only [World.frozen?, hb]
  simp
  omega
end Go.Proofs.YtpmieapgbdbabaaDoor.QAll
end

section
/- strings.Cut at a separator of one byte, walked by hand over the shelf's contract of Index: what stands ahead of the first such byte, and behind it, for every text. -/
set_option linter.unusedVariables false
set_option linter.unusedSimpArgs false
namespace Go.Proofs.YtpmieapgbdbabaaDoor.QAll
open Go.RowKit Go.Proofs.YtpmieapgbdbabaaDoorW.PrintWords Go.Proofs.YtpmieapgbdbabaaDoorW.PrintLast Go.Proofs.YtpmieapgbdbabaaDoorW.PrintMore

/-- Where the first byte c stands; the length, if there is none. -/
def idxOf (s : ByteArray) (c : UInt8) : Nat := (Lib.indexByte s.data.toList c).toNat
def cutHas (s : ByteArray) (c : UInt8) : Bool := decide (0 ≤ Lib.indexByte s.data.toList c)
def cutA (s : ByteArray) (c : UInt8) : ByteArray := if cutHas s c = true then s.extract 0 (idxOf s c) else s
def cutB (s : ByteArray) (c : UInt8) : ByteArray := if cutHas s c = true then s.extract (idxOf s c + 1) s.size else ⟨#[]⟩

theorem indexByte_lt : ∀ (l : List UInt8) (c : UInt8) (i : Nat), Lib.indexByte l c = i → i < l.length
  | [], c, i, h => by
    simp only [Lib.indexByte] at h
    omega
  | b :: l, c, i, h => by
    have hg := Lib.indexByte_ge l c
    simp only [Lib.indexByte] at h
    by_cases e : (b == c) = true
    · rw [if_pos e] at h; simp only [List.length_cons]; omega
    · rw [if_neg e] at h
      by_cases e2 : (Lib.indexByte l c == -1) = true
      · rw [if_pos e2] at h; omega
      · rw [if_neg e2] at h
        have e3 : Lib.indexByte l c ≠ -1 := by simpa using e2
        have := indexByte_lt l c (i - 1) (by omega)
        simp only [List.length_cons]; omega

set_option maxHeartbeats 1000000 in
set_option maxRecDepth 100000 in
theorem slCut_one (s : ByteArray) (c : UInt8) (w : World) (hs : s.size ≤ 9223372036854775807) :
    Calls Tryd.prog 92 #[.string s, .string ⟨#[c]⟩] w fun e w' => e = .returned (.tuple #[.string (cutA s c), .string (cutB s c), .bool (cutHas s c)]) ∧ Drawn0 w w' := by
  by_cases h : 0 ≤ Lib.indexByte s.data.toList c
  · obtain ⟨i, hi⟩ := Int.eq_ofNat_of_zero_le h
    have hlt : i < s.size := by have := indexByte_lt _ _ _ hi; simpa using this
    have HA := Aside0.mk (show cutA s c = s.extract 0 i by unfold cutA cutHas idxOf; rw [hi]; simp)
    have HB := Aside0.mk (show cutB s c = s.extract (i + 1) s.size by unfold cutB cutHas idxOf; rw [hi]; simp)
    have HH := Aside0.mk (show cutHas s c = true by unfold cutHas; rw [hi]; simp)
    have HI := Aside0.mk hi
    clear h hi
    go_enter Tryd.func92, Tryd.ntmps92
    go_wp2_with (go_at_call 106; refine (Tryd.stringslite_Index_one s c _).mono ?_; rw [HI.out]; rintro e w' ⟨rfl, rfl⟩)
    have h0 : (0 : Int) ≤ (i : Int) := by omega
    have h1 : (i : Int) ≤ (s.size : Int) := by omega
    have h2 : (i : Int) + 1 ≤ (s.size : Int) := by omega
    go_quiet (fail)
    go_wp2
    go_ret3
    exact ⟨by rw [HA.out, HB.out, HH.out]; rfl, ⟨_, rfl⟩⟩
  · have HA := Aside0.mk (show cutA s c = s by unfold cutA cutHas; rw [decide_eq_false h]; simp)
    have HB := Aside0.mk (show cutB s c = ⟨#[]⟩ by unfold cutB cutHas; rw [decide_eq_false h]; simp)
    have HH := Aside0.mk (show cutHas s c = false by unfold cutHas; rw [decide_eq_false h])
    have hm : Lib.indexByte s.data.toList c = -1 := by have := Lib.indexByte_ge s.data.toList c; omega
    have HI := Aside0.mk hm
    clear h hm
    go_enter Tryd.func92, Tryd.ntmps92
    go_wp2_with (go_at_call 106; refine (Tryd.stringslite_Index_one s c _).mono ?_; rw [HI.out]; rintro e w' ⟨rfl, rfl⟩)
    go_ret3
    exact ⟨by rw [HA.out, HB.out, HH.out]; rfl, Drawn0.refl _⟩
theorem cut_one (s : ByteArray) (c : UInt8) (w : World) (hs : s.size ≤ 9223372036854775807) :
    Calls Tryd.prog 70 #[.string s, .string ⟨#[c]⟩] w fun e w' => e = .returned (.tuple #[.string (cutA s c), .string (cutB s c), .bool (cutHas s c)]) ∧ Drawn0 w w' := by
  go_enter Tryd.func70, Tryd.ntmps70
  go_wp2_with (go_at_call 92; refine (slCut_one s c _ hs).mono ?_; rintro e w' ⟨rfl, ⟨nd, rfl⟩⟩)
  go_ret3
  exact ⟨rfl, ⟨_, rfl⟩⟩
end Go.Proofs.YtpmieapgbdbabaaDoor.QAll
end

section
/- call.Parse, walked by hand: the call of a word, or none and ErrCall, for every word. -/
set_option linter.unusedVariables false
set_option linter.unusedSimpArgs false
namespace Go.Proofs.YtpmieapgbdbabaaDoor.QAll
open Go.RowKit Go.Proofs.YtpmieapgbdbabaaDoorW.PrintWords Go.Proofs.YtpmieapgbdbabaaDoorW.PrintLast Go.Proofs.YtpmieapgbdbabaaDoorW.PrintMore

/-- The number behind the dash; none, if there is none so written. -/
def numOf (s : ByteArray) : Option Int := match Lib.atoiAll s.data.toList with
  | .ok v => if Lib.itoa v = s.data.toList then some v else none
  | _ => none
/-- What Parse tells. -/
def parseS (s : ByteArray) : ByteArray × Int × Int :=
  if cutHas (upperS s) 45 = true then
    match numOf (cutB (upperS s) 45) with
    | some v => if rightB (cutA (upperS s) 45) v = true then (cutA (upperS s) 45, v, 0) else (⟨#[]⟩, 0, 12)
    | none => (⟨#[]⟩, 0, 12)
  else if rightB (cutA (upperS s) 45) 0 = true then (cutA (upperS s) 45, 0, 0) else (⟨#[]⟩, 0, 12)
def call_Parse.f (a0 : ByteArray) : Option (ByteArray × Int × Int) := if a0.size ≤ 281474976710656 then some (parseS a0) else none

theorem cutB_size (s : ByteArray) (c : UInt8) : (cutB s c).size ≤ s.size := by
  unfold cutB
  split
  · simp only [ByteArray.size_extract]; omega
  · exact Nat.zero_le _
end Go.Proofs.YtpmieapgbdbabaaDoor.QAll
end

section
/- call.Get, walked by hand: the call of seven bytes, its marks, or none, for every text. -/
set_option linter.unusedVariables false
set_option linter.unusedSimpArgs false
namespace Go.Proofs.YtpmieapgbdbabaaDoor.QAll
open Go.RowKit Go.Proofs.YtpmieapgbdbabaaDoorW.PrintWords Go.Proofs.YtpmieapgbdbabaaDoorW.PrintLast Go.Proofs.YtpmieapgbdbabaaDoorW.PrintMore

def halfL (s : ByteArray) (k : Nat) : List Int := (List.range k).map fun j : Nat => bt s (j : Int) / 2
def getBase (s : ByteArray) : ByteArray := ⟨(Lib.trimRightB (strOfNums (halfL s 6)).data.toList 32).toArray⟩
/-- What Get tells. -/
def getS (s : ByteArray) : ByteArray × Int × Bool × Bool × Int :=
  if s.size < 7 then (⟨#[]⟩, 0, false, false, 4) else if 7 < s.size then (⟨#[]⟩, 0, false, false, 5)
  else if rightB (getBase s) (bt s 6 / 2 % 16) = true ∧ strOfNums (putL (getBase s) (bt s 6 / 2 % 16) (decide (128 ≤ bt s 6)) (decide (bt s 6 % 2 = 1))) = s
    then (getBase s, bt s 6 / 2 % 16, decide (128 ≤ bt s 6), decide (bt s 6 % 2 = 1), 0)
  else (⟨#[]⟩, 0, false, false, 2)
def call_Get.f (a0 : ByteArray) : Option (ByteArray × Int × Bool × Bool × Int) := if a0.size ≤ 9223372036854775807 then some (getS a0) else none

end Go.Proofs.YtpmieapgbdbabaaDoor.QAll
end

section
/- path.next, walked by hand: which digipeater is the first that has not sent it; -1, if all have. -/
set_option linter.unusedVariables false
set_option linter.unusedSimpArgs false
namespace Go.Proofs.YtpmieapgbdbabaaDoor.QAll
open Go.RowKit Go.Proofs.YtpmieapgbdbabaaDoorW.PrintWords Go.Proofs.YtpmieapgbdbabaaDoorW.PrintLast Go.Proofs.YtpmieapgbdbabaaDoorW.PrintMore

/-- The first that has not sent it. -/
def nextFrom : Nat → List S93 → Int
  | _, [] => -1
  | i, d :: r => if d.f1 = true then nextFrom (i + 1) r else i
def nextI (l : List S93) : Int := nextFrom 0 l
def path_next.f (a0_0 : ByteArray) (a0_1 : Int) (a0_2 : ByteArray) (a0_3 : Int) (a0_4 : Bool) (a0_5 : Bool) (l0_6 : List S93) : Option Int := if l0_6.length ≤ 1000000 then some (nextI l0_6) else none
end Go.Proofs.YtpmieapgbdbabaaDoor.QAll
end

section
/- Walks, written by a program of this session (wip/pp): a Go function comes to what the Lean function beside it tells. -/
namespace Go.Proofs.YtpmieapgbdbabaaDoor.QAll
open Go.RowKit Go.Proofs.YtpmieapgbdbabaaDoorW.PrintWords Go.Proofs.YtpmieapgbdbabaaDoorW.PrintLast Go.Proofs.YtpmieapgbdbabaaDoorW.PrintMore
attribute [local go_sem] max2_int min2_int max_two min_two max_three min_three max_four min_four
set_option linter.unusedVariables false
set_option linter.unusedSimpArgs false

def path_ordered.l0 : Nat → List (S93) → List (S93) → Int → Int → Option (Bool)
 | 0, _, _, _, _ => none
 | k + 1, x0, x5, x6, x7 => if x7 < x6 then (if 0 ≤ x7 then (if x7 < (x5.length : Int) then (if (rd_T93 x5 x7).f1 = true then (if x7 > 0 then (if 0 ≤ (wrap64 (x7 - 1)) then (if (wrap64 (x7 - 1)) < (x0.length : Int) then (if ((rd_T93 x0 (wrap64 (x7 - 1))).f1 = true) then (path_ordered.l0 k x0 x5 x6 (wrap64 (x7 + 1))) else (some false)) else (none)) else (none)) else (path_ordered.l0 k x0 x5 x6 (wrap64 (x7 + 1)))) else (path_ordered.l0 k x0 x5 x6 (wrap64 (x7 + 1)))) else (none)) else (none)) else (some (decide ((x0.length : Int) ≤ 8)))
def path_ordered.f (k : Nat) (l0 : List (S93)) : Option (Bool) := path_ordered.l0 k l0 l0 (l0.length : Int) 0
end Go.Proofs.YtpmieapgbdbabaaDoor.QAll
end

section
/- path.Right, walked by hand: is a path right? -/
set_option linter.unusedVariables false
set_option linter.unusedSimpArgs false
namespace Go.Proofs.YtpmieapgbdbabaaDoor.QAll
open Go.RowKit Go.Proofs.YtpmieapgbdbabaaDoorW.PrintWords Go.Proofs.YtpmieapgbdbabaaDoorW.PrintLast Go.Proofs.YtpmieapgbdbabaaDoorW.PrintMore

def rightD (d : S93) : Bool := rightB d.f0.f0 d.f0.f1
/-- None has sent it behind one that has not. -/
def ordFrom : Bool → List S93 → Bool
  | _, [] => true
  | p, d :: r => (!d.f1 || p) && ordFrom d.f1 r
def ordB (l : List S93) : Bool := ordFrom true l && decide (l.length ≤ 8)
def pathB (a0 : ByteArray) (n0 : Int) (a1 : ByteArray) (n1 : Int) (l : List S93) : Bool := rightB a0 n0 && (rightB a1 n1 && (l.all rightD && ordB l))
def sizesOk (a0 a1 : ByteArray) (l : List S93) : Bool := decide (a0.size ≤ 9223372036854775807) && (decide (a1.size ≤ 9223372036854775807) && (l.all (fun d => decide (d.f0.f0.size ≤ 9223372036854775807)) && decide (l.length ≤ 1000000)))
def path_Right.f (a0_0 : ByteArray) (a0_1 : Int) (a0_2 : ByteArray) (a0_3 : Int) (a0_4 : Bool) (a0_5 : Bool) (l0_6 : List S93) : Option Bool := if sizesOk a0_0 a0_2 l0_6 = true then some (pathB a0_0 a0_1 a0_2 a0_3 l0_6) else none
end Go.Proofs.YtpmieapgbdbabaaDoor.QAll
end

section
/- path.Get, walked by hand: the path with whose bytes a text begins, or none. -/
set_option linter.unusedVariables false
set_option linter.unusedSimpArgs false
namespace Go.Proofs.YtpmieapgbdbabaaDoor.QAll
open Go.RowKit Go.Proofs.YtpmieapgbdbabaaDoorW.PrintWords Go.Proofs.YtpmieapgbdbabaaDoorW.PrintLast Go.Proofs.YtpmieapgbdbabaaDoorW.PrintMore

/-- The entry that begins at the k-th seven bytes. -/
def pgT (s : ByteArray) (k : Nat) : ByteArray := s.extract (7 * k) (7 * k + 7)
def pgE (s : ByteArray) (k : Nat) : S93 := ⟨⟨(getS (pgT s k)).1, (getS (pgT s k)).2.1⟩, (getS (pgT s k)).2.2.1⟩
/-- What is told behind k entries, which are l. -/
def pgFrom (s : ByteArray) : Nat → Nat → List S93 → Nat × List S93 × Int
  | 0, _, _ => (0, [], 11)
  | f + 1, k, l =>
    if s.size < 7 * k + 7 then (0, [], 4)
    else if (getS (pgT s k)).2.2.2.2 ≠ 0 then (0, [], 2)
    else if k = 10 then (0, [], 11)
    else if (getS (pgT s k)).2.2.2.1 = false then pgFrom s f (k + 1) (l ++ [pgE s k])
    else if k = 0 then (0, [], 2)
    else if ordB ((l ++ [pgE s k]).drop 2) = true then (7 * k + 7, l ++ [pgE s k], 0) else (0, [], 11)
def pgS (s : ByteArray) : Nat × List S93 × Int := pgFrom s 11 0 []
def path_Get.f (a0 : ByteArray) : Option (ByteArray × Int × ByteArray × Int × Bool × Bool × List S93 × Int × Int) :=
  if a0.size ≤ 1000000 then some ((rd_T93 (pgS a0).2.1 0).f0.f0, (rd_T93 (pgS a0).2.1 0).f0.f1, (rd_T93 (pgS a0).2.1 1).f0.f0, (rd_T93 (pgS a0).2.1 1).f0.f1, (rd_T93 (pgS a0).2.1 0).f1, (rd_T93 (pgS a0).2.1 1).f1, (pgS a0).2.1.drop 2, ((pgS a0).1 : Int), (pgS a0).2.2) else none
end Go.Proofs.YtpmieapgbdbabaaDoor.QAll
end
