/- Words, walks and plain laws that the row of the law XidTexts rests on. -/
import Derived.Test.YtpmieapgbdbabaaDoorMXidTexts0
section
/- Walks, written by a program of this session (wip/pp): a Go function comes to what the Lean function beside it tells. -/
namespace Go.Proofs.YtpmieapgbdbabaaDoor.QAll
open Go.RowKit Go.Proofs.YtpmieapgbdbabaaDoorW.PrintWords Go.Proofs.YtpmieapgbdbabaaDoorW.PrintLast Go.Proofs.YtpmieapgbdbabaaDoorW.PrintMore
attribute [local go_sem] max2_int min2_int max_two min_two max_three min_three max_four min_four
set_option linter.unusedVariables false
set_option linter.unusedSimpArgs false

def xid_Put.f (k : Nat) (a0_0 : Bool) (a0_1 : Bool) (a0_2 : Int) (a0_3 : Int) (a0_4 : Int) (a0_5 : Int) : Option (ByteArray × Int) := (xid_Right.f a0_0 a0_1 a0_2 a0_3 a0_4 a0_5).bind fun t534 => (if t534 = true then ((xid_bit.f a0_0 2).bind fun t535 => ((xid_bit.f a0_1 4).bind fun t536 => ((xid_field.f k 3 (([Go.bits .or .i64 t535 t536, 0] : List Int))).bind fun t540 => ((xid_field.f k 6 (([a0_2 / 256, Go.bits .and .i64 a0_2 255] : List Int))).bind fun t544 => (if t540.size + t544.size ≤ 9223372036854775807 then ((xid_field.f k 8 (([a0_3] : List Int))).bind fun t548 => (if (t540 ++ t544).size + t548.size ≤ 9223372036854775807 then ((xid_field.f k 9 (([a0_4] : List Int))).bind fun t552 => (if ((t540 ++ t544) ++ t548).size + t552.size ≤ 9223372036854775807 then ((xid_field.f k 10 (([a0_5] : List Int))).bind fun t556 => (if (((t540 ++ t544) ++ t548) ++ t552).size + t556.size ≤ 9223372036854775807 then ((some (([0, ((((((t540 ++ t544) ++ t548) ++ t552) ++ t556).size : Int)) % 256] : List Int) : List Int)).bind fun y557 => (if 2 + (strOfNums y557).size ≤ 9223372036854775807 then (if ((⟨#[130, 128]⟩ : ByteArray) ++ (strOfNums y557)).size + ((((t540 ++ t544) ++ t548) ++ t552) ++ t556).size ≤ 9223372036854775807 then (some (((⟨#[130, 128]⟩ : ByteArray) ++ (strOfNums y557)) ++ ((((t540 ++ t544) ++ t548) ++ t552) ++ t556), 0)) else (none)) else (none))) else (none))) else (none))) else (none))) else (none)))))) else (some ((⟨#[]⟩ : ByteArray), 1)))
def xid_Put.T3 : Bool × List (List Nat × List Nat) := (true, [([], []), ([0], [0]), ([1], [1]), ([], []), ([3], [3]), ([4, 2], [4]), ([2, 5], [2, 5]), ([6], [6]), ([7, 5], [7]), ([], []), ([9], [9]), ([10], [10]), ([], []), ([12], [12]), ([13], [13]), ([11, 14], [11, 14]), ([15, 8], [15]), ([8, 16], [8, 16]), ([], []), ([18], [18]), ([19], [19]), ([20, 16], [20]), ([17, 21], [17, 21]), ([], []), ([23], [23]), ([24], [24]), ([25, 21], [25]), ([22, 26], [22, 26]), ([], []), ([28], [28]), ([29], [29]), ([30, 26], [30]), ([27, 31], [27, 31]), ([32, 31, 0, 1, 2, 3, 4, 5, 6, 7, 8, 9, 10, 11, 12, 13, 14, 15, 16, 17, 18, 19, 20, 21, 22, 23, 24, 25, 26, 27, 28, 29, 30, 31, 32], [32])])
def xid_Put.B3 : List Nat := [0, 1, 3, 0, 8, 31, 63, 127, 255, 0, 512, 1536, 0, 4096, 12288, 32256, 65535, 131071, 0, 262144, 786432, 1966079, 4194303, 0, 8388608, 25165824, 62783487, 134217727, 0, 268435456, 805306368, 2008940543, 4294967295, 8589934591]
theorem xid_Put.tab3 : rtab .any (opsOf Tryd.f74 3) = xid_Put.T3 := by kernel_rfl
theorem xid_Put.bits3 : waitsOk xid_Put.T3.2 xid_Put.B3 = true := by kernel_rfl
set_option maxHeartbeats 8000000 in
set_option maxRecDepth 100000 in
theorem xid_Put.calls (k : Nat) (a0_0 : Bool) (a0_1 : Bool) (a0_2 : Int) (a0_3 : Int) (a0_4 : Int) (a0_5 : Int) (r1 : ByteArray) (r2 : Int) (w : World) (h : xid_Put.f k a0_0 a0_1 a0_2 a0_3 a0_4 a0_5 = some (r1, r2)) :
  Calls Tryd.prog 74 #[.agg #[.bool a0_0, .bool a0_1, .int .i64 a0_2, .int .i64 a0_3, .int .i64 a0_4, .int .i64 a0_5]] w fun e w' => e = .returned (.tuple #[.string r1, .int .i64 r2]) ∧ Below w.heap.size w w' := by
 have hu72 := Tryd.underlying72
 have HB := Aside0.mk (Below.refl w.heap.size w)
 have H : ((xid_Right.f a0_0 a0_1 a0_2 a0_3 a0_4 a0_5).bind fun t534 => (if t534 = true then ((xid_bit.f a0_0 2).bind fun t535 => ((xid_bit.f a0_1 4).bind fun t536 => ((xid_field.f k 3 (([Go.bits .or .i64 t535 t536, 0] : List Int))).bind fun t540 => ((xid_field.f k 6 (([a0_2 / 256, Go.bits .and .i64 a0_2 255] : List Int))).bind fun t544 => (if t540.size + t544.size ≤ 9223372036854775807 then ((xid_field.f k 8 (([a0_3] : List Int))).bind fun t548 => (if (t540 ++ t544).size + t548.size ≤ 9223372036854775807 then ((xid_field.f k 9 (([a0_4] : List Int))).bind fun t552 => (if ((t540 ++ t544) ++ t548).size + t552.size ≤ 9223372036854775807 then ((xid_field.f k 10 (([a0_5] : List Int))).bind fun t556 => (if (((t540 ++ t544) ++ t548) ++ t552).size + t556.size ≤ 9223372036854775807 then ((some (([0, ((((((t540 ++ t544) ++ t548) ++ t552) ++ t556).size : Int)) % 256] : List Int) : List Int)).bind fun y557 => (if 2 + (strOfNums y557).size ≤ 9223372036854775807 then (if ((⟨#[130, 128]⟩ : ByteArray) ++ (strOfNums y557)).size + ((((t540 ++ t544) ++ t548) ++ t552) ++ t556).size ≤ 9223372036854775807 then (some (((⟨#[130, 128]⟩ : ByteArray) ++ (strOfNums y557)) ++ ((((t540 ++ t544) ++ t548) ++ t552) ++ t556), 0)) else (none)) else (none))) else (none))) else (none))) else (none))) else (none)))))) else (some ((⟨#[]⟩ : ByteArray), 1)))) = some (r1, r2) := h
 clear h
 replace H := Option.bind_eq_some_iff.mp H
 obtain ⟨t534, A20, H⟩ := H
 replace H : (if t534 = true then ((xid_bit.f a0_0 2).bind fun t535 => ((xid_bit.f a0_1 4).bind fun t536 => ((xid_field.f k 3 (([Go.bits .or .i64 t535 t536, 0] : List Int))).bind fun t540 => ((xid_field.f k 6 (([a0_2 / 256, Go.bits .and .i64 a0_2 255] : List Int))).bind fun t544 => (if t540.size + t544.size ≤ 9223372036854775807 then ((xid_field.f k 8 (([a0_3] : List Int))).bind fun t548 => (if (t540 ++ t544).size + t548.size ≤ 9223372036854775807 then ((xid_field.f k 9 (([a0_4] : List Int))).bind fun t552 => (if ((t540 ++ t544) ++ t548).size + t552.size ≤ 9223372036854775807 then ((xid_field.f k 10 (([a0_5] : List Int))).bind fun t556 => (if (((t540 ++ t544) ++ t548) ++ t552).size + t556.size ≤ 9223372036854775807 then ((some (([0, ((((((t540 ++ t544) ++ t548) ++ t552) ++ t556).size : Int)) % 256] : List Int) : List Int)).bind fun y557 => (if 2 + (strOfNums y557).size ≤ 9223372036854775807 then (if ((⟨#[130, 128]⟩ : ByteArray) ++ (strOfNums y557)).size + ((((t540 ++ t544) ++ t548) ++ t552) ++ t556).size ≤ 9223372036854775807 then (some (((⟨#[130, 128]⟩ : ByteArray) ++ (strOfNums y557)) ++ ((((t540 ++ t544) ++ t548) ++ t552) ++ t556), 0)) else (none)) else (none))) else (none))) else (none))) else (none))) else (none)))))) else (some ((⟨#[]⟩ : ByteArray), 1))) = some (r1, r2) := H
 have A2 := Aside0.mk A20
 clear A20
 by_cases c3 : t534 = true
 ·subst c3
  have H1 : ((xid_bit.f a0_0 2).bind fun t535 => ((xid_bit.f a0_1 4).bind fun t536 => ((xid_field.f k 3 (([Go.bits .or .i64 t535 t536, 0] : List Int))).bind fun t540 => ((xid_field.f k 6 (([a0_2 / 256, Go.bits .and .i64 a0_2 255] : List Int))).bind fun t544 => (if t540.size + t544.size ≤ 9223372036854775807 then ((xid_field.f k 8 (([a0_3] : List Int))).bind fun t548 => (if (t540 ++ t544).size + t548.size ≤ 9223372036854775807 then ((xid_field.f k 9 (([a0_4] : List Int))).bind fun t552 => (if ((t540 ++ t544) ++ t548).size + t552.size ≤ 9223372036854775807 then ((xid_field.f k 10 (([a0_5] : List Int))).bind fun t556 => (if (((t540 ++ t544) ++ t548) ++ t552).size + t556.size ≤ 9223372036854775807 then ((some (([0, ((((((t540 ++ t544) ++ t548) ++ t552) ++ t556).size : Int)) % 256] : List Int) : List Int)).bind fun y557 => (if 2 + (strOfNums y557).size ≤ 9223372036854775807 then (if ((⟨#[130, 128]⟩ : ByteArray) ++ (strOfNums y557)).size + ((((t540 ++ t544) ++ t548) ++ t552) ++ t556).size ≤ 9223372036854775807 then (some (((⟨#[130, 128]⟩ : ByteArray) ++ (strOfNums y557)) ++ ((((t540 ++ t544) ++ t548) ++ t552) ++ t556), 0)) else (none)) else (none))) else (none))) else (none))) else (none))) else (none)))))) = some (r1, r2) := by rw [if_pos rfl] at H; exact H
  clear H
  have H := H1
  clear H1
  replace H := Option.bind_eq_some_iff.mp H
  obtain ⟨t535, A40, H⟩ := H
  replace H : ((xid_bit.f a0_1 4).bind fun t536 => ((xid_field.f k 3 (([Go.bits .or .i64 t535 t536, 0] : List Int))).bind fun t540 => ((xid_field.f k 6 (([a0_2 / 256, Go.bits .and .i64 a0_2 255] : List Int))).bind fun t544 => (if t540.size + t544.size ≤ 9223372036854775807 then ((xid_field.f k 8 (([a0_3] : List Int))).bind fun t548 => (if (t540 ++ t544).size + t548.size ≤ 9223372036854775807 then ((xid_field.f k 9 (([a0_4] : List Int))).bind fun t552 => (if ((t540 ++ t544) ++ t548).size + t552.size ≤ 9223372036854775807 then ((xid_field.f k 10 (([a0_5] : List Int))).bind fun t556 => (if (((t540 ++ t544) ++ t548) ++ t552).size + t556.size ≤ 9223372036854775807 then ((some (([0, ((((((t540 ++ t544) ++ t548) ++ t552) ++ t556).size : Int)) % 256] : List Int) : List Int)).bind fun y557 => (if 2 + (strOfNums y557).size ≤ 9223372036854775807 then (if ((⟨#[130, 128]⟩ : ByteArray) ++ (strOfNums y557)).size + ((((t540 ++ t544) ++ t548) ++ t552) ++ t556).size ≤ 9223372036854775807 then (some (((⟨#[130, 128]⟩ : ByteArray) ++ (strOfNums y557)) ++ ((((t540 ++ t544) ++ t548) ++ t552) ++ t556), 0)) else (none)) else (none))) else (none))) else (none))) else (none))) else (none))))) = some (r1, r2) := H
  have A4 := Aside0.mk A40
  clear A40
  replace H := Option.bind_eq_some_iff.mp H
  obtain ⟨t536, A50, H⟩ := H
  replace H : ((xid_field.f k 3 (([Go.bits .or .i64 t535 t536, 0] : List Int))).bind fun t540 => ((xid_field.f k 6 (([a0_2 / 256, Go.bits .and .i64 a0_2 255] : List Int))).bind fun t544 => (if t540.size + t544.size ≤ 9223372036854775807 then ((xid_field.f k 8 (([a0_3] : List Int))).bind fun t548 => (if (t540 ++ t544).size + t548.size ≤ 9223372036854775807 then ((xid_field.f k 9 (([a0_4] : List Int))).bind fun t552 => (if ((t540 ++ t544) ++ t548).size + t552.size ≤ 9223372036854775807 then ((xid_field.f k 10 (([a0_5] : List Int))).bind fun t556 => (if (((t540 ++ t544) ++ t548) ++ t552).size + t556.size ≤ 9223372036854775807 then ((some (([0, ((((((t540 ++ t544) ++ t548) ++ t552) ++ t556).size : Int)) % 256] : List Int) : List Int)).bind fun y557 => (if 2 + (strOfNums y557).size ≤ 9223372036854775807 then (if ((⟨#[130, 128]⟩ : ByteArray) ++ (strOfNums y557)).size + ((((t540 ++ t544) ++ t548) ++ t552) ++ t556).size ≤ 9223372036854775807 then (some (((⟨#[130, 128]⟩ : ByteArray) ++ (strOfNums y557)) ++ ((((t540 ++ t544) ++ t548) ++ t552) ++ t556), 0)) else (none)) else (none))) else (none))) else (none))) else (none))) else (none)))) = some (r1, r2) := H
  have A5 := Aside0.mk A50
  clear A50
  obtain ⟨y537, hy537⟩ : ∃ y_ : List Int, y_ = (([Go.bits .or .i64 t535 t536, 0] : List Int)) := ⟨_, rfl⟩
  replace H : ((xid_field.f k 3 y537).bind fun t540 => ((xid_field.f k 6 (([a0_2 / 256, Go.bits .and .i64 a0_2 255] : List Int))).bind fun t544 => (if t540.size + t544.size ≤ 9223372036854775807 then ((xid_field.f k 8 (([a0_3] : List Int))).bind fun t548 => (if (t540 ++ t544).size + t548.size ≤ 9223372036854775807 then ((xid_field.f k 9 (([a0_4] : List Int))).bind fun t552 => (if ((t540 ++ t544) ++ t548).size + t552.size ≤ 9223372036854775807 then ((xid_field.f k 10 (([a0_5] : List Int))).bind fun t556 => (if (((t540 ++ t544) ++ t548) ++ t552).size + t556.size ≤ 9223372036854775807 then ((some (([0, ((((((t540 ++ t544) ++ t548) ++ t552) ++ t556).size : Int)) % 256] : List Int) : List Int)).bind fun y557 => (if 2 + (strOfNums y557).size ≤ 9223372036854775807 then (if ((⟨#[130, 128]⟩ : ByteArray) ++ (strOfNums y557)).size + ((((t540 ++ t544) ++ t548) ++ t552) ++ t556).size ≤ 9223372036854775807 then (some (((⟨#[130, 128]⟩ : ByteArray) ++ (strOfNums y557)) ++ ((((t540 ++ t544) ++ t548) ++ t552) ++ t556), 0)) else (none)) else (none))) else (none))) else (none))) else (none))) else (none)))) = some (r1, r2) := by first | (rw [hy537]; with_reducible exact H) | (have H2_ := (Option.bind_some _ _).symm.trans H; rw [hy537]; with_reducible exact H2_) | (have H2_ := (Option.bind_some _ _).symm.trans H; with_reducible exact H2_) | with_reducible exact H | (rw [hy537]; exact H) | exact H
  have Ny537 := Aside0.mk hy537
  clear hy537
  replace H := Option.bind_eq_some_iff.mp H
  obtain ⟨t540, A60, H⟩ := H
  replace H : ((xid_field.f k 6 (([a0_2 / 256, Go.bits .and .i64 a0_2 255] : List Int))).bind fun t544 => (if t540.size + t544.size ≤ 9223372036854775807 then ((xid_field.f k 8 (([a0_3] : List Int))).bind fun t548 => (if (t540 ++ t544).size + t548.size ≤ 9223372036854775807 then ((xid_field.f k 9 (([a0_4] : List Int))).bind fun t552 => (if ((t540 ++ t544) ++ t548).size + t552.size ≤ 9223372036854775807 then ((xid_field.f k 10 (([a0_5] : List Int))).bind fun t556 => (if (((t540 ++ t544) ++ t548) ++ t552).size + t556.size ≤ 9223372036854775807 then ((some (([0, ((((((t540 ++ t544) ++ t548) ++ t552) ++ t556).size : Int)) % 256] : List Int) : List Int)).bind fun y557 => (if 2 + (strOfNums y557).size ≤ 9223372036854775807 then (if ((⟨#[130, 128]⟩ : ByteArray) ++ (strOfNums y557)).size + ((((t540 ++ t544) ++ t548) ++ t552) ++ t556).size ≤ 9223372036854775807 then (some (((⟨#[130, 128]⟩ : ByteArray) ++ (strOfNums y557)) ++ ((((t540 ++ t544) ++ t548) ++ t552) ++ t556), 0)) else (none)) else (none))) else (none))) else (none))) else (none))) else (none))) = some (r1, r2) := H
  have A6 := Aside0.mk A60
  clear A60
  obtain ⟨y541, hy541⟩ : ∃ y_ : List Int, y_ = (([a0_2 / 256, Go.bits .and .i64 a0_2 255] : List Int)) := ⟨_, rfl⟩
  replace H : ((xid_field.f k 6 y541).bind fun t544 => (if t540.size + t544.size ≤ 9223372036854775807 then ((xid_field.f k 8 (([a0_3] : List Int))).bind fun t548 => (if (t540 ++ t544).size + t548.size ≤ 9223372036854775807 then ((xid_field.f k 9 (([a0_4] : List Int))).bind fun t552 => (if ((t540 ++ t544) ++ t548).size + t552.size ≤ 9223372036854775807 then ((xid_field.f k 10 (([a0_5] : List Int))).bind fun t556 => (if (((t540 ++ t544) ++ t548) ++ t552).size + t556.size ≤ 9223372036854775807 then ((some (([0, ((((((t540 ++ t544) ++ t548) ++ t552) ++ t556).size : Int)) % 256] : List Int) : List Int)).bind fun y557 => (if 2 + (strOfNums y557).size ≤ 9223372036854775807 then (if ((⟨#[130, 128]⟩ : ByteArray) ++ (strOfNums y557)).size + ((((t540 ++ t544) ++ t548) ++ t552) ++ t556).size ≤ 9223372036854775807 then (some (((⟨#[130, 128]⟩ : ByteArray) ++ (strOfNums y557)) ++ ((((t540 ++ t544) ++ t548) ++ t552) ++ t556), 0)) else (none)) else (none))) else (none))) else (none))) else (none))) else (none))) = some (r1, r2) := by first | (rw [hy541]; with_reducible exact H) | (have H2_ := (Option.bind_some _ _).symm.trans H; rw [hy541]; with_reducible exact H2_) | (have H2_ := (Option.bind_some _ _).symm.trans H; with_reducible exact H2_) | with_reducible exact H | (rw [hy541]; exact H) | exact H
  have Ny541 := Aside0.mk hy541
  clear hy541
  replace H := Option.bind_eq_some_iff.mp H
  obtain ⟨t544, A70, H⟩ := H
  replace H : (if t540.size + t544.size ≤ 9223372036854775807 then ((xid_field.f k 8 (([a0_3] : List Int))).bind fun t548 => (if (t540 ++ t544).size + t548.size ≤ 9223372036854775807 then ((xid_field.f k 9 (([a0_4] : List Int))).bind fun t552 => (if ((t540 ++ t544) ++ t548).size + t552.size ≤ 9223372036854775807 then ((xid_field.f k 10 (([a0_5] : List Int))).bind fun t556 => (if (((t540 ++ t544) ++ t548) ++ t552).size + t556.size ≤ 9223372036854775807 then ((some (([0, ((((((t540 ++ t544) ++ t548) ++ t552) ++ t556).size : Int)) % 256] : List Int) : List Int)).bind fun y557 => (if 2 + (strOfNums y557).size ≤ 9223372036854775807 then (if ((⟨#[130, 128]⟩ : ByteArray) ++ (strOfNums y557)).size + ((((t540 ++ t544) ++ t548) ++ t552) ++ t556).size ≤ 9223372036854775807 then (some (((⟨#[130, 128]⟩ : ByteArray) ++ (strOfNums y557)) ++ ((((t540 ++ t544) ++ t548) ++ t552) ++ t556), 0)) else (none)) else (none))) else (none))) else (none))) else (none))) else (none)) = some (r1, r2) := H
  have A7 := Aside0.mk A70
  clear A70
  by_cases c8 : t540.size + t544.size ≤ 9223372036854775807
  ·rw [if_pos c8] at H
   have c8b0 := eq_true c8
   have c8b1 : decide (t540.size + t544.size ≤ 9223372036854775807) = true := decide_eq_true c8
   try have c8b2 : (9223372036854775807 < t540.size + t544.size) = False := eq_false (Nat.not_lt.2 c8)
   obtain ⟨y545, hy545⟩ : ∃ y_ : List Int, y_ = (([a0_3] : List Int)) := ⟨_, rfl⟩
   replace H : ((xid_field.f k 8 y545).bind fun t548 => (if (t540 ++ t544).size + t548.size ≤ 9223372036854775807 then ((xid_field.f k 9 (([a0_4] : List Int))).bind fun t552 => (if ((t540 ++ t544) ++ t548).size + t552.size ≤ 9223372036854775807 then ((xid_field.f k 10 (([a0_5] : List Int))).bind fun t556 => (if (((t540 ++ t544) ++ t548) ++ t552).size + t556.size ≤ 9223372036854775807 then ((some (([0, ((((((t540 ++ t544) ++ t548) ++ t552) ++ t556).size : Int)) % 256] : List Int) : List Int)).bind fun y557 => (if 2 + (strOfNums y557).size ≤ 9223372036854775807 then (if ((⟨#[130, 128]⟩ : ByteArray) ++ (strOfNums y557)).size + ((((t540 ++ t544) ++ t548) ++ t552) ++ t556).size ≤ 9223372036854775807 then (some (((⟨#[130, 128]⟩ : ByteArray) ++ (strOfNums y557)) ++ ((((t540 ++ t544) ++ t548) ++ t552) ++ t556), 0)) else (none)) else (none))) else (none))) else (none))) else (none))) = some (r1, r2) := by first | (rw [hy545]; with_reducible exact H) | (have H2_ := (Option.bind_some _ _).symm.trans H; rw [hy545]; with_reducible exact H2_) | (have H2_ := (Option.bind_some _ _).symm.trans H; with_reducible exact H2_) | with_reducible exact H | (rw [hy545]; exact H) | exact H
   have Ny545 := Aside0.mk hy545
   clear hy545
   replace H := Option.bind_eq_some_iff.mp H
   obtain ⟨t548, A90, H⟩ := H
   replace H : (if (t540 ++ t544).size + t548.size ≤ 9223372036854775807 then ((xid_field.f k 9 (([a0_4] : List Int))).bind fun t552 => (if ((t540 ++ t544) ++ t548).size + t552.size ≤ 9223372036854775807 then ((xid_field.f k 10 (([a0_5] : List Int))).bind fun t556 => (if (((t540 ++ t544) ++ t548) ++ t552).size + t556.size ≤ 9223372036854775807 then ((some (([0, ((((((t540 ++ t544) ++ t548) ++ t552) ++ t556).size : Int)) % 256] : List Int) : List Int)).bind fun y557 => (if 2 + (strOfNums y557).size ≤ 9223372036854775807 then (if ((⟨#[130, 128]⟩ : ByteArray) ++ (strOfNums y557)).size + ((((t540 ++ t544) ++ t548) ++ t552) ++ t556).size ≤ 9223372036854775807 then (some (((⟨#[130, 128]⟩ : ByteArray) ++ (strOfNums y557)) ++ ((((t540 ++ t544) ++ t548) ++ t552) ++ t556), 0)) else (none)) else (none))) else (none))) else (none))) else (none)) = some (r1, r2) := H
   have A9 := Aside0.mk A90
   clear A90
   by_cases c10 : (t540 ++ t544).size + t548.size ≤ 9223372036854775807
   ·rw [if_pos c10] at H
    have c10b0 := eq_true c10
    have c10b1 : decide ((t540 ++ t544).size + t548.size ≤ 9223372036854775807) = true := decide_eq_true c10
    try have c10b2 : (9223372036854775807 < (t540 ++ t544).size + t548.size) = False := eq_false (Nat.not_lt.2 c10)
    (try (have c10b5 := c10b2; simp only [ByteArray.size_append] at c10b5))
    obtain ⟨y549, hy549⟩ : ∃ y_ : List Int, y_ = (([a0_4] : List Int)) := ⟨_, rfl⟩
    replace H : ((xid_field.f k 9 y549).bind fun t552 => (if ((t540 ++ t544) ++ t548).size + t552.size ≤ 9223372036854775807 then ((xid_field.f k 10 (([a0_5] : List Int))).bind fun t556 => (if (((t540 ++ t544) ++ t548) ++ t552).size + t556.size ≤ 9223372036854775807 then ((some (([0, ((((((t540 ++ t544) ++ t548) ++ t552) ++ t556).size : Int)) % 256] : List Int) : List Int)).bind fun y557 => (if 2 + (strOfNums y557).size ≤ 9223372036854775807 then (if ((⟨#[130, 128]⟩ : ByteArray) ++ (strOfNums y557)).size + ((((t540 ++ t544) ++ t548) ++ t552) ++ t556).size ≤ 9223372036854775807 then (some (((⟨#[130, 128]⟩ : ByteArray) ++ (strOfNums y557)) ++ ((((t540 ++ t544) ++ t548) ++ t552) ++ t556), 0)) else (none)) else (none))) else (none))) else (none))) = some (r1, r2) := by first | (rw [hy549]; with_reducible exact H) | (have H2_ := (Option.bind_some _ _).symm.trans H; rw [hy549]; with_reducible exact H2_) | (have H2_ := (Option.bind_some _ _).symm.trans H; with_reducible exact H2_) | with_reducible exact H | (rw [hy549]; exact H) | exact H
    have Ny549 := Aside0.mk hy549
    clear hy549
    replace H := Option.bind_eq_some_iff.mp H
    obtain ⟨t552, A110, H⟩ := H
    replace H : (if ((t540 ++ t544) ++ t548).size + t552.size ≤ 9223372036854775807 then ((xid_field.f k 10 (([a0_5] : List Int))).bind fun t556 => (if (((t540 ++ t544) ++ t548) ++ t552).size + t556.size ≤ 9223372036854775807 then ((some (([0, ((((((t540 ++ t544) ++ t548) ++ t552) ++ t556).size : Int)) % 256] : List Int) : List Int)).bind fun y557 => (if 2 + (strOfNums y557).size ≤ 9223372036854775807 then (if ((⟨#[130, 128]⟩ : ByteArray) ++ (strOfNums y557)).size + ((((t540 ++ t544) ++ t548) ++ t552) ++ t556).size ≤ 9223372036854775807 then (some (((⟨#[130, 128]⟩ : ByteArray) ++ (strOfNums y557)) ++ ((((t540 ++ t544) ++ t548) ++ t552) ++ t556), 0)) else (none)) else (none))) else (none))) else (none)) = some (r1, r2) := H
    have A11 := Aside0.mk A110
    clear A110
    by_cases c12 : ((t540 ++ t544) ++ t548).size + t552.size ≤ 9223372036854775807
    ·rw [if_pos c12] at H
     have c12b0 := eq_true c12
     have c12b1 : decide (((t540 ++ t544) ++ t548).size + t552.size ≤ 9223372036854775807) = true := decide_eq_true c12
     try have c12b2 : (9223372036854775807 < ((t540 ++ t544) ++ t548).size + t552.size) = False := eq_false (Nat.not_lt.2 c12)
     (try (have c12b5 := c12b2; simp only [ByteArray.size_append] at c12b5))
     obtain ⟨y553, hy553⟩ : ∃ y_ : List Int, y_ = (([a0_5] : List Int)) := ⟨_, rfl⟩
     replace H : ((xid_field.f k 10 y553).bind fun t556 => (if (((t540 ++ t544) ++ t548) ++ t552).size + t556.size ≤ 9223372036854775807 then ((some (([0, ((((((t540 ++ t544) ++ t548) ++ t552) ++ t556).size : Int)) % 256] : List Int) : List Int)).bind fun y557 => (if 2 + (strOfNums y557).size ≤ 9223372036854775807 then (if ((⟨#[130, 128]⟩ : ByteArray) ++ (strOfNums y557)).size + ((((t540 ++ t544) ++ t548) ++ t552) ++ t556).size ≤ 9223372036854775807 then (some (((⟨#[130, 128]⟩ : ByteArray) ++ (strOfNums y557)) ++ ((((t540 ++ t544) ++ t548) ++ t552) ++ t556), 0)) else (none)) else (none))) else (none))) = some (r1, r2) := by first | (rw [hy553]; with_reducible exact H) | (have H2_ := (Option.bind_some _ _).symm.trans H; rw [hy553]; with_reducible exact H2_) | (have H2_ := (Option.bind_some _ _).symm.trans H; with_reducible exact H2_) | with_reducible exact H | (rw [hy553]; exact H) | exact H
     have Ny553 := Aside0.mk hy553
     clear hy553
     replace H := Option.bind_eq_some_iff.mp H
     obtain ⟨t556, A130, H⟩ := H
     replace H : (if (((t540 ++ t544) ++ t548) ++ t552).size + t556.size ≤ 9223372036854775807 then ((some (([0, ((((((t540 ++ t544) ++ t548) ++ t552) ++ t556).size : Int)) % 256] : List Int) : List Int)).bind fun y557 => (if 2 + (strOfNums y557).size ≤ 9223372036854775807 then (if ((⟨#[130, 128]⟩ : ByteArray) ++ (strOfNums y557)).size + ((((t540 ++ t544) ++ t548) ++ t552) ++ t556).size ≤ 9223372036854775807 then (some (((⟨#[130, 128]⟩ : ByteArray) ++ (strOfNums y557)) ++ ((((t540 ++ t544) ++ t548) ++ t552) ++ t556), 0)) else (none)) else (none))) else (none)) = some (r1, r2) := H
     have A13 := Aside0.mk A130
     clear A130
     by_cases c14 : (((t540 ++ t544) ++ t548) ++ t552).size + t556.size ≤ 9223372036854775807
     ·rw [if_pos c14] at H
      have c14b0 := eq_true c14
      have c14b1 : decide ((((t540 ++ t544) ++ t548) ++ t552).size + t556.size ≤ 9223372036854775807) = true := decide_eq_true c14
      try have c14b2 : (9223372036854775807 < (((t540 ++ t544) ++ t548) ++ t552).size + t556.size) = False := eq_false (Nat.not_lt.2 c14)
      (try (have c14b5 := c14b2; simp only [ByteArray.size_append] at c14b5))
      obtain ⟨y557, hy557⟩ : ∃ y_ : List Int, y_ = (([0, ((((((t540 ++ t544) ++ t548) ++ t552) ++ t556).size : Int)) % 256] : List Int)) := ⟨_, rfl⟩
      replace H : (if 2 + (strOfNums y557).size ≤ 9223372036854775807 then (if ((⟨#[130, 128]⟩ : ByteArray) ++ (strOfNums y557)).size + ((((t540 ++ t544) ++ t548) ++ t552) ++ t556).size ≤ 9223372036854775807 then (some (((⟨#[130, 128]⟩ : ByteArray) ++ (strOfNums y557)) ++ ((((t540 ++ t544) ++ t548) ++ t552) ++ t556), 0)) else (none)) else (none)) = some (r1, r2) := by first | (rw [hy557]; with_reducible exact H) | (have H2_ := (Option.bind_some _ _).symm.trans H; rw [hy557]; with_reducible exact H2_) | (have H2_ := (Option.bind_some _ _).symm.trans H; with_reducible exact H2_) | with_reducible exact H | (rw [hy557]; exact H) | exact H
      have Ny557 := Aside0.mk hy557
      clear hy557
      by_cases c15 : 2 + (strOfNums y557).size ≤ 9223372036854775807
      ·rw [if_pos c15] at H
       have c15b0 := eq_true c15
       have c15b1 : decide (2 + (strOfNums y557).size ≤ 9223372036854775807) = true := decide_eq_true c15
       try have c15b2 : (9223372036854775807 < 2 + (strOfNums y557).size) = False := eq_false (Nat.not_lt.2 c15)
       by_cases c16 : ((⟨#[130, 128]⟩ : ByteArray) ++ (strOfNums y557)).size + ((((t540 ++ t544) ++ t548) ++ t552) ++ t556).size ≤ 9223372036854775807
       ·rw [if_pos c16] at H
        have c16b0 := eq_true c16
        have c16b1 : decide (((⟨#[130, 128]⟩ : ByteArray) ++ (strOfNums y557)).size + ((((t540 ++ t544) ++ t548) ++ t552) ++ t556).size ≤ 9223372036854775807) = true := decide_eq_true c16
        try have c16b2 : (9223372036854775807 < ((⟨#[130, 128]⟩ : ByteArray) ++ (strOfNums y557)).size + ((((t540 ++ t544) ++ t548) ++ t552) ++ t556).size) = False := eq_false (Nat.not_lt.2 c16)
        (try (have c16b5 := c16b2; simp only [ByteArray.size_append, show (⟨#[130, 128]⟩ : ByteArray).size = 2 from rfl] at c16b5))
        simp only [Option.some.injEq, Prod.mk.injEq] at H
        obtain ⟨rfl, rfl⟩ := H
        go_enter Tryd.func74, Tryd.ntmps74
        try go_wp2_with (first | ((with_reducible refine gate_dst (N := 1) rfl ?_); refine box_event ?hg (N := 1) ?hd (cs := #[.bool a0_0, .bool a0_1, .int .i64 a0_2, .int .i64 a0_3, .int .i64 a0_4, .int .i64 a0_5]) (t := 72) ?hr ?_; (case hd => rfl); (case hg => rfl); (case hr => first | (go_simp; done) | (go_simp; rfl)); intro gb533 hg w17 hbox hb; have n0_ := Aside0.mk (below_step (by repeat (first | (with_reducible first | exact HB.out | apply below_alloc | apply pw_below_drewN | apply below_drew1) | exact HB.out)) hb); have n1_ := Aside0.mk (hbox); have n2_ := Aside0.mk ((by rw [hg]; exact (below_size (by repeat (first | (with_reducible first | exact HB.out | apply below_alloc | apply pw_below_drewN | apply below_drew1) | exact HB.out))) : w.heap.size ≤ gb533)); have n3_ := Aside0.mk ((by rw [hg]; exact (below_size (by repeat (first | (with_reducible first | exact HB.out | apply below_alloc | apply pw_below_drewN | apply below_drew1) | exact HB.out))) : w.heap.size ≤ gb533)); clear HB; have HB := n0_; have BK533 := n1_; have GW533 := n2_; have GE533 := n3_; clear n0_ n1_ n2_ n3_; clear hb hbox hg; have hcz18_0 : w17.cell? ⟨gb533, 0, none⟩ = some (.bool a0_0) := (blk_cell BK533.out 0).trans rfl; have hcz18_1 : w17.cell? ⟨gb533, 1, none⟩ = some (.bool a0_1) := (blk_cell BK533.out 1).trans rfl; have hcz18_2 : w17.cell? ⟨gb533, 2, none⟩ = some (.int .i64 a0_2) := (blk_cell BK533.out 2).trans rfl; have hcz18_3 : w17.cell? ⟨gb533, 3, none⟩ = some (.int .i64 a0_3) := (blk_cell BK533.out 3).trans rfl; have hcz18_4 : w17.cell? ⟨gb533, 4, none⟩ = some (.int .i64 a0_4) := (blk_cell BK533.out 4).trans rfl; have hcz18_5 : w17.cell? ⟨gb533, 5, none⟩ = some (.int .i64 a0_5) := (blk_cell BK533.out 5).trans rfl; have hfz18_0 := blk_frozen BK533.out 0; have hfz18_1 := blk_frozen BK533.out 1; have hfz18_2 := blk_frozen BK533.out 2; have hfz18_3 := blk_frozen BK533.out 3; have hfz18_4 := blk_frozen BK533.out 4; have hfz18_5 := blk_frozen BK533.out 5) | ((with_reducible refine gate_callee (f := 51) rfl ?_); refine goesL_ (some 6) rfl rfl Tryd.func51 (by kernel_rfl) rfl #[.agg #[.bool a0_0, .bool a0_1, .int .i64 a0_2, .int .i64 a0_3, .int .i64 a0_4, .int .i64 a0_5]] rfl (by (try simp only [List.map_toArray, List.map_cons, List.map_nil]); first | done | rfl | (simp only [List.length_drop, List.length_take]; rfl)) ?_; (with_reducible refine (xid_Right.calls a0_0 a0_1 a0_2 a0_3 a0_4 a0_5 true _ A2.out).mono ?_); rintro e w19 ⟨rfl, hb⟩; refine ⟨_, rfl, ?_⟩; have n0_ := Aside0.mk (blk_below (g := gb533) (o := .cells #[.bool a0_0, .bool a0_1, .int .i64 a0_2, .int .i64 a0_3, .int .i64 a0_4, .int .i64 a0_5] 72 (0, 0)) (by (with_reducible repeat (first | refine blk_drewN ?_ _ | refine blk_drew ?_ | refine blk_alloc ?_ _)); exact BK533.out) hb); have n1_ := Aside0.mk (below_step (by repeat (first | (with_reducible first | exact HB.out | apply below_alloc | apply pw_below_drewN | apply below_drew1 | refine below_set ?_ GE533.out) | exact HB.out)) hb); clear BK533; clear HB; have BK533 := n0_; have HB := n1_; clear n0_ n1_; (try clear hb); (try clear hb2); (try clear hk); (try clear hi)))
        have n0_ := Aside0.mk (blk_drew BK533.out)
        have n1_ := Aside0.mk (below_drew1 HB.out)
        clear BK533
        clear HB
        have BK533 := n0_
        have HB := n1_
        clear n0_ n1_
        refine start_ (n := 34) (S := fun w' => True) (ds := []) #[false, false, false, false, false, false, false, false, false, false, false, false, false, false, false, false, false, false, false, false, false, false, false, false, false, false, false, false, false, false, false, false, false, false] (by kernel_rfl) rfl rfl trivial (fun hHeld => ?_); refine with_tabW xid_Put.tab3 xid_Put.bits3 (fun HT_ HW_ => ?_)
        generalize w19.drew = w20 at BK533 HB hHeld ⊢
        refine pure_ (i := 0) (N := some 8) (v := ?_) (a' := ?_) #[true, false, false, false, false, false, false, false, false, false, false, false, false, false, false, false, false, false, false, false, false, false, false, false, false, false, false, false, false, false, false, false, false, false] rfl rfl (any_of HT_.out (by kernel_rfl)) (fun _ _ _ h => h) (Or.inl ⟨by rfl, ?_⟩) ?_ ?_
        rotate_left
        ·intro w'
         go_simp
         with_reducible rfl
        rotate_left
        ·simp only [Act.put, List.setIfInBounds_toArray, List.set_cons_zero, List.set_cons_succ, i64_w, i32_w]
         rfl
        refine pure_ (i := 3) (N := some 11) (v := ?_) (a' := ?_) #[true, false, false, true, false, false, false, false, false, false, false, false, false, false, false, false, false, false, false, false, false, false, false, false, false, false, false, false, false, false, false, false, false, false] rfl rfl (any_of HT_.out (by kernel_rfl)) (fun _ _ _ h => h) (Or.inl ⟨by rfl, ?_⟩) ?_ ?_
        rotate_left
        ·intro w'
         go_simp
         with_reducible rfl
        rotate_left
        ·simp only [Act.put, List.setIfInBounds_toArray, List.set_cons_zero, List.set_cons_succ, i64_w, i32_w]
         rfl
        refine pure_ (i := 9) (N := some 17) (v := ?_) (a' := ?_) #[true, false, false, true, false, false, false, false, false, true, false, false, false, false, false, false, false, false, false, false, false, false, false, false, false, false, false, false, false, false, false, false, false, false] rfl rfl (any_of HT_.out (by kernel_rfl)) (fun _ _ _ h => h) (Or.inl ⟨by rfl, ?_⟩) ?_ ?_
        rotate_left
        ·intro w'
         go_simp
         with_reducible rfl
        rotate_left
        ·simp only [Act.put, List.setIfInBounds_toArray, List.set_cons_zero, List.set_cons_succ, i64_w, i32_w]
         rfl
        refine pure_ (i := 12) (N := some 20) (v := ?_) (a' := ?_) #[true, false, false, true, false, false, false, false, false, true, false, false, true, false, false, false, false, false, false, false, false, false, false, false, false, false, false, false, false, false, false, false, false, false] rfl rfl (any_of HT_.out (by kernel_rfl)) (fun _ _ _ h => h) (Or.inl ⟨by rfl, ?_⟩) ?_ ?_
        rotate_left
        ·intro w'
         go_simp
         with_reducible rfl
        rotate_left
        ·simp only [Act.put, List.setIfInBounds_toArray, List.set_cons_zero, List.set_cons_succ, i64_w, i32_w]
         rfl
        refine pure_ (i := 18) (N := some 26) (v := ?_) (a' := ?_) #[true, false, false, true, false, false, false, false, false, true, false, false, true, false, false, false, false, false, true, false, false, false, false, false, false, false, false, false, false, false, false, false, false, false] rfl rfl (any_of HT_.out (by kernel_rfl)) (fun _ _ _ h => h) (Or.inl ⟨by rfl, ?_⟩) ?_ ?_
        rotate_left
        ·intro w'
         go_simp
         with_reducible rfl
        rotate_left
        ·simp only [Act.put, List.setIfInBounds_toArray, List.set_cons_zero, List.set_cons_succ, i64_w, i32_w]
         rfl
        refine pure_ (i := 23) (N := some 31) (v := ?_) (a' := ?_) #[true, false, false, true, false, false, false, false, false, true, false, false, true, false, false, false, false, false, true, false, false, false, false, true, false, false, false, false, false, false, false, false, false, false] rfl rfl (any_of HT_.out (by kernel_rfl)) (fun _ _ _ h => h) (Or.inl ⟨by rfl, ?_⟩) ?_ ?_
        rotate_left
        ·intro w'
         go_simp
         with_reducible rfl
        rotate_left
        ·simp only [Act.put, List.setIfInBounds_toArray, List.set_cons_zero, List.set_cons_succ, i64_w, i32_w]
         rfl
        refine pure_ (i := 28) (N := some 36) (v := ?_) (a' := ?_) #[true, false, false, true, false, false, false, false, false, true, false, false, true, false, false, false, false, false, true, false, false, false, false, true, false, false, false, false, true, false, false, false, false, false] rfl rfl (any_of HT_.out (by kernel_rfl)) (fun _ _ _ h => h) (Or.inl ⟨by rfl, ?_⟩) ?_ ?_
        rotate_left
        ·intro w'
         go_simp
         with_reducible rfl
        rotate_left
        ·simp only [Act.put, List.setIfInBounds_toArray, List.set_cons_zero, List.set_cons_succ, i64_w, i32_w]
         rfl
        refine inv_at [1, 2, 4, 5, 6, 7, 8, 10, 11, 13, 14, 15, 16, 17, 19, 20, 21, 22, 24, 25, 26, 27, 29, 30, 31, 32, 33] (fun a0_ b a w' => ∃ (v538 : Value) (v542 : Value) (v546 : Value) (v550 : Value) (v554 : Value), a = putSel a0_ b [(1, 9, .bool a0_0), (2, 10, .int .i64 t535), (4, 12, .bool a0_1), (5, 13, .int .i64 t536), (6, 14, .int .i64 (Go.bits .or .i64 t535 t536)), (7, 15, v538), (8, 16, .string t540), (10, 18, .int .i64 a0_2), (11, 19, .int .i64 (a0_2 / 256)), (13, 21, .int .i64 a0_2), (14, 22, .int .i64 (Go.bits .and .i64 a0_2 255)), (15, 23, v542), (16, 24, .string t544), (17, 25, .string (t540 ++ t544)), (19, 27, .int .i64 a0_3), (20, 28, v546), (21, 29, .string t548), (22, 30, .string ((t540 ++ t544) ++ t548)), (24, 32, .int .i64 a0_4), (25, 33, v550), (26, 34, .string t552), (27, 35, .string (((t540 ++ t544) ++ t548) ++ t552)), (29, 37, .int .i64 a0_5), (30, 38, v554), (31, 39, .string t556), (32, 40, .string ((((t540 ++ t544) ++ t548) ++ t552) ++ t556)), (33, 4, .string ((((t540 ++ t544) ++ t548) ++ t552) ++ t556))] ∧ (w'.heap[gb533]? = some (.cells #[.bool a0_0, .bool a0_1, .int .i64 a0_2, .int .i64 a0_3, .int .i64 a0_4, .int .i64 a0_5] 72 (0, 0))) ∧ (Below w.heap.size w w') ∧ (b 7 = true → Kd.R (Kd.int .i64) 3 w' w.heap.size (fun _ => True) v538 y537) ∧ (b 15 = true → Kd.R (Kd.int .i64) 3 w' w.heap.size (fun _ => True) v542 y541) ∧ (b 20 = true → Kd.R (Kd.int .i64) 3 w' w.heap.size (fun _ => True) v546 y545) ∧ (b 25 = true → Kd.R (Kd.int .i64) 3 w' w.heap.size (fun _ => True) v550 y549) ∧ (b 30 = true → Kd.R (Kd.int .i64) 3 w' w.heap.size (fun _ => True) v554 y553)) HT_.out HW_.out (by kernel_rfl) (by kernel_rfl) ?_ ?_ ?_
        ·exact ⟨.bool false, .bool false, .bool false, .bool false, .bool false, by simp only [putSel, Bool.false_eq_true, if_false], BK533.out, HB.out, fun h_ => absurd h_ (by decide), fun h_ => absurd h_ (by decide), fun h_ => absurd h_ (by decide), fun h_ => absurd h_ (by decide), fun h_ => absurd h_ (by decide)⟩
        ·skip
         clear BK533 HB
         refine steps_cons ?_ ?_
         ·rintro b a w' ⟨v538, v542, v546, v550, v554, ha, Q_BK533, Q_HB, Q_HO539, Q_HO543, Q_HO547, Q_HO551, Q_HO555⟩ hb_ hon hoff
          refine ⟨_, rfl, fun K hK => ?_⟩
          have e8 : a.tmps[8]? = some (.pointer (some ⟨gb533, 0, none⟩)) := by rw [ha]; exact (putSel_off rfl).trans rfl
          replace ha := Aside0.mk ha
          have BK533 := Aside0.mk Q_BK533
          have HB := Aside0.mk Q_HB
          have hc0_ : w'.cell? ⟨gb533, 0, none⟩ = some (.bool a0_0) := (blk_cell BK533.out 0).trans rfl
          have hc1_ : w'.cell? ⟨gb533, 1, none⟩ = some (.bool a0_1) := (blk_cell BK533.out 1).trans rfl
          have hc2_ : w'.cell? ⟨gb533, 2, none⟩ = some (.int .i64 a0_2) := (blk_cell BK533.out 2).trans rfl
          have hc3_ : w'.cell? ⟨gb533, 3, none⟩ = some (.int .i64 a0_3) := (blk_cell BK533.out 3).trans rfl
          have hc4_ : w'.cell? ⟨gb533, 4, none⟩ = some (.int .i64 a0_4) := (blk_cell BK533.out 4).trans rfl
          have hc5_ : w'.cell? ⟨gb533, 5, none⟩ = some (.int .i64 a0_5) := (blk_cell BK533.out 5).trans rfl
          refine value_ (w1 := w') (v := .bool a0_0) (by rfl) rfl ?_ ?_
          ·go_simp
           (try simp only [i64_w])
           try rfl
           all_goals (try ((try simp only [ByteArray.size_append] at *); omega))
          refine hK.out _ _ ⟨v538, v542, v546, v550, v554, (by rw [ha.out]; exact putSel_upk 0 hb_ rfl rfl rfl), Q_BK533, Q_HB, fun h0_ => absurd ((hoff 7 (by kernel_rfl)).symm.trans h0_) (by decide), Q_HO543, Q_HO547, Q_HO551, Q_HO555⟩
         refine steps_cons ?_ ?_
         ·rintro b a w' ⟨v538, v542, v546, v550, v554, ha, Q_BK533, Q_HB, Q_HO539, Q_HO543, Q_HO547, Q_HO551, Q_HO555⟩ hb_ hon hoff
          refine ⟨_, rfl, fun K hK => ?_⟩
          have e9 : a.tmps[9]? = some (.bool a0_0) := by rw [ha]; exact putSel_on (e := (1, 9, .bool a0_0)) 0 rfl rfl (hon 1 (by kernel_rfl)) rfl
          replace ha := Aside0.mk ha
          have BK533 := Aside0.mk Q_BK533
          have HB := Aside0.mk Q_HB
          refine goes_ Tryd.func96 (by kernel_rfl) rfl #[.bool a0_0, .int .i64 2] (by rfl) rfl rfl (by first | (simp only [List.map_toArray, List.map_cons, List.map_nil, Act.eval, Array.getD_eq_getD_getElem?, Option.getD_some, e9]; done) | (simp only [List.map_toArray, List.map_cons, List.map_nil, Act.eval, Array.getD_eq_getD_getElem?, Option.getD_some, e9]; rfl)) ?_
          with_reducible refine (xid_bit.calls a0_0 2 t535 _ A4.out).mono ?_
          rintro e w' ⟨rfl, ⟨nd, rfl⟩⟩
          refine ⟨_, rfl, ?_⟩
          refine hK.out _ _ ⟨v538, v542, v546, v550, v554, (by rw [ha.out]; exact putSel_upk 1 hb_ rfl rfl rfl), (by (with_reducible repeat (first | refine blk_drewN ?_ _ | refine blk_drew ?_ | refine blk_alloc ?_ _)); exact BK533.out), (by repeat (first | (with_reducible first | exact HB.out | apply below_alloc | apply pw_below_drewN | apply below_drew1 | refine below_set ?_ GE533.out) | exact HB.out)), fun h0_ => absurd ((hoff 7 (by kernel_rfl)).symm.trans h0_) (by decide), fun h0_ => (by (with_reducible repeat (first | apply Kd.R_alloc | apply Kd.R_drewN | apply Kd.R_drew)); exact (Q_HO543 h0_)), fun h0_ => (by (with_reducible repeat (first | apply Kd.R_alloc | apply Kd.R_drewN | apply Kd.R_drew)); exact (Q_HO547 h0_)), fun h0_ => (by (with_reducible repeat (first | apply Kd.R_alloc | apply Kd.R_drewN | apply Kd.R_drew)); exact (Q_HO551 h0_)), fun h0_ => (by (with_reducible repeat (first | apply Kd.R_alloc | apply Kd.R_drewN | apply Kd.R_drew)); exact (Q_HO555 h0_))⟩
         refine steps_cons ?_ ?_
         ·rintro b a w' ⟨v538, v542, v546, v550, v554, ha, Q_BK533, Q_HB, Q_HO539, Q_HO543, Q_HO547, Q_HO551, Q_HO555⟩ hb_ hon hoff
          refine ⟨_, rfl, fun K hK => ?_⟩
          have e11 : a.tmps[11]? = some (.pointer (some ⟨gb533, 1, none⟩)) := by rw [ha]; exact (putSel_off rfl).trans rfl
          replace ha := Aside0.mk ha
          have BK533 := Aside0.mk Q_BK533
          have HB := Aside0.mk Q_HB
          have hc0_ : w'.cell? ⟨gb533, 0, none⟩ = some (.bool a0_0) := (blk_cell BK533.out 0).trans rfl
          have hc1_ : w'.cell? ⟨gb533, 1, none⟩ = some (.bool a0_1) := (blk_cell BK533.out 1).trans rfl
          have hc2_ : w'.cell? ⟨gb533, 2, none⟩ = some (.int .i64 a0_2) := (blk_cell BK533.out 2).trans rfl
          have hc3_ : w'.cell? ⟨gb533, 3, none⟩ = some (.int .i64 a0_3) := (blk_cell BK533.out 3).trans rfl
          have hc4_ : w'.cell? ⟨gb533, 4, none⟩ = some (.int .i64 a0_4) := (blk_cell BK533.out 4).trans rfl
          have hc5_ : w'.cell? ⟨gb533, 5, none⟩ = some (.int .i64 a0_5) := (blk_cell BK533.out 5).trans rfl
          refine value_ (w1 := w') (v := .bool a0_1) (by rfl) rfl ?_ ?_
          ·go_simp
           (try simp only [i64_w])
           try rfl
           all_goals (try ((try simp only [ByteArray.size_append] at *); omega))
          refine hK.out _ _ ⟨v538, v542, v546, v550, v554, (by rw [ha.out]; exact putSel_upk 2 hb_ rfl rfl rfl), Q_BK533, Q_HB, fun h0_ => absurd ((hoff 7 (by kernel_rfl)).symm.trans h0_) (by decide), Q_HO543, Q_HO547, Q_HO551, Q_HO555⟩
         refine steps_cons ?_ ?_
         ·rintro b a w' ⟨v538, v542, v546, v550, v554, ha, Q_BK533, Q_HB, Q_HO539, Q_HO543, Q_HO547, Q_HO551, Q_HO555⟩ hb_ hon hoff
          refine ⟨_, rfl, fun K hK => ?_⟩
          have e12 : a.tmps[12]? = some (.bool a0_1) := by rw [ha]; exact putSel_on (e := (4, 12, .bool a0_1)) 2 rfl rfl (hon 4 (by kernel_rfl)) rfl
          replace ha := Aside0.mk ha
          have BK533 := Aside0.mk Q_BK533
          have HB := Aside0.mk Q_HB
          refine goes_ Tryd.func96 (by kernel_rfl) rfl #[.bool a0_1, .int .i64 4] (by rfl) rfl rfl (by first | (simp only [List.map_toArray, List.map_cons, List.map_nil, Act.eval, Array.getD_eq_getD_getElem?, Option.getD_some, e12]; done) | (simp only [List.map_toArray, List.map_cons, List.map_nil, Act.eval, Array.getD_eq_getD_getElem?, Option.getD_some, e12]; rfl)) ?_
          with_reducible refine (xid_bit.calls a0_1 4 t536 _ A5.out).mono ?_
          rintro e w' ⟨rfl, ⟨nd, rfl⟩⟩
          refine ⟨_, rfl, ?_⟩
          refine hK.out _ _ ⟨v538, v542, v546, v550, v554, (by rw [ha.out]; exact putSel_upk 3 hb_ rfl rfl rfl), (by (with_reducible repeat (first | refine blk_drewN ?_ _ | refine blk_drew ?_ | refine blk_alloc ?_ _)); exact BK533.out), (by repeat (first | (with_reducible first | exact HB.out | apply below_alloc | apply pw_below_drewN | apply below_drew1 | refine below_set ?_ GE533.out) | exact HB.out)), fun h0_ => absurd ((hoff 7 (by kernel_rfl)).symm.trans h0_) (by decide), fun h0_ => (by (with_reducible repeat (first | apply Kd.R_alloc | apply Kd.R_drewN | apply Kd.R_drew)); exact (Q_HO543 h0_)), fun h0_ => (by (with_reducible repeat (first | apply Kd.R_alloc | apply Kd.R_drewN | apply Kd.R_drew)); exact (Q_HO547 h0_)), fun h0_ => (by (with_reducible repeat (first | apply Kd.R_alloc | apply Kd.R_drewN | apply Kd.R_drew)); exact (Q_HO551 h0_)), fun h0_ => (by (with_reducible repeat (first | apply Kd.R_alloc | apply Kd.R_drewN | apply Kd.R_drew)); exact (Q_HO555 h0_))⟩
         refine steps_cons ?_ ?_
         ·rintro b a w' ⟨v538, v542, v546, v550, v554, ha, Q_BK533, Q_HB, Q_HO539, Q_HO543, Q_HO547, Q_HO551, Q_HO555⟩ hb_ hon hoff
          refine ⟨_, rfl, fun K hK => ?_⟩
          have e10 : a.tmps[10]? = some (.int .i64 t535) := by rw [ha]; exact putSel_on (e := (2, 10, .int .i64 t535)) 1 rfl rfl (hon 2 (by kernel_rfl)) rfl
          have e13 : a.tmps[13]? = some (.int .i64 t536) := by rw [ha]; exact putSel_on (e := (5, 13, .int .i64 t536)) 3 rfl rfl (hon 5 (by kernel_rfl)) rfl
          replace ha := Aside0.mk ha
          have BK533 := Aside0.mk Q_BK533
          have HB := Aside0.mk Q_HB
          refine value_ (w1 := w') (v := .int .i64 (Go.bits .or .i64 t535 t536)) (by rfl) rfl ?_ ?_
          ·go_simp
           (try simp only [i64_w])
           try rfl
           all_goals (try ((try simp only [ByteArray.size_append] at *); omega))
          refine hK.out _ _ ⟨v538, v542, v546, v550, v554, (by rw [ha.out]; exact putSel_upk 4 hb_ rfl rfl rfl), Q_BK533, Q_HB, fun h0_ => absurd ((hoff 7 (by kernel_rfl)).symm.trans h0_) (by decide), Q_HO543, Q_HO547, Q_HO551, Q_HO555⟩
         refine steps_cons ?_ ?_
         ·rintro b a w' ⟨v538, v542, v546, v550, v554, ha, Q_BK533, Q_HB, Q_HO539, Q_HO543, Q_HO547, Q_HO551, Q_HO555⟩ hb_ hon hoff
          refine ⟨_, rfl, fun K hK => ?_⟩
          have e14 : a.tmps[14]? = some (.int .i64 (Go.bits .or .i64 t535 t536)) := by rw [ha]; exact putSel_on (e := (6, 14, .int .i64 (Go.bits .or .i64 t535 t536))) 4 rfl rfl (hon 6 (by kernel_rfl)) rfl
          replace ha := Aside0.mk ha
          have BK533 := Aside0.mk Q_BK533
          have HB := Aside0.mk Q_HB
          refine Kd.R_lit_step (Kd.int .i64) _ 3 ?hg (N := 15) ?hd (xs := ([Go.bits .or .i64 t535 t536, 0] : List Int)) (inner := [.int .i64 (Go.bits .or .i64 t535 t536), .int .i64 0]) (ok := fun _ => True) (okp := fun _ => True) ?hr ?hp (fun _ hk => hk) trivial (Below.refl _ _) (Nat.le_refl _) (by simp) ?_; (case hd => rfl); (case hg => rfl); (case hr => first | (go_simp; done) | (go_simp; rfl)); (case hp => exact (Reps.one (show Kd.M (Kd.int .i64) _ _ _ (Go.bits .or .i64 t535 t536) [.int .i64 (Go.bits .or .i64 t535 t536)] from rfl) (Reps.one (show Kd.M (Kd.int .i64) _ _ _ 0 [.int .i64 0] from rfl) (Reps.none _ _))))
          intro v538 w22 ho23 hb hg_ hnew_
          clear hg_ hnew_
          (first | rw [← Ny537.out] at ho23 | (simp only [Int.reduceToNat] at ho23; rw [← Ny537.out] at ho23))
          have n0_ := Aside0.mk (Kd.R_lower ho23 (below_size (by repeat (first | (with_reducible first | exact HB.out | apply below_alloc | apply pw_below_drewN | apply below_drew1 | refine below_set ?_ GE533.out) | exact HB.out))))
          have n1_ := Aside0.mk (blk_below (g := gb533) (o := .cells #[.bool a0_0, .bool a0_1, .int .i64 a0_2, .int .i64 a0_3, .int .i64 a0_4, .int .i64 a0_5] 72 (0, 0)) (by (with_reducible repeat (first | refine blk_drewN ?_ _ | refine blk_drew ?_ | refine blk_alloc ?_ _)); exact BK533.out) hb)
          have n2_ := Aside0.mk (below_step (by repeat (first | (with_reducible first | exact HB.out | apply below_alloc | apply pw_below_drewN | apply below_drew1 | refine below_set ?_ GE533.out) | exact HB.out)) hb)
          have z_HO543 := fun (h0_ : b 15 = true) => (show Kd.R (Kd.int .i64) 3 w22 w.heap.size (fun _ => True) v542 y541 from by first | exact (Kd.R_elder' (by (with_reducible repeat (first | apply Kd.R_alloc | apply Kd.R_drewN | apply Kd.R_drew)); exact (Q_HO543 h0_)) (Kd.R_base ho23) hb) | exact Kd.R_mono (Kd.R_elder' (by (with_reducible repeat (first | apply Kd.R_alloc | apply Kd.R_drewN | apply Kd.R_drew)); exact (Q_HO543 h0_)) (Kd.R_base ho23) hb) (fun _ h_ => by first | trivial | exact h_ | exact h_.1))
          have z_HO547 := fun (h0_ : b 20 = true) => (show Kd.R (Kd.int .i64) 3 w22 w.heap.size (fun _ => True) v546 y545 from by first | exact (Kd.R_elder' (by (with_reducible repeat (first | apply Kd.R_alloc | apply Kd.R_drewN | apply Kd.R_drew)); exact (Q_HO547 h0_)) (Kd.R_base ho23) hb) | exact Kd.R_mono (Kd.R_elder' (by (with_reducible repeat (first | apply Kd.R_alloc | apply Kd.R_drewN | apply Kd.R_drew)); exact (Q_HO547 h0_)) (Kd.R_base ho23) hb) (fun _ h_ => by first | trivial | exact h_ | exact h_.1))
          have z_HO551 := fun (h0_ : b 25 = true) => (show Kd.R (Kd.int .i64) 3 w22 w.heap.size (fun _ => True) v550 y549 from by first | exact (Kd.R_elder' (by (with_reducible repeat (first | apply Kd.R_alloc | apply Kd.R_drewN | apply Kd.R_drew)); exact (Q_HO551 h0_)) (Kd.R_base ho23) hb) | exact Kd.R_mono (Kd.R_elder' (by (with_reducible repeat (first | apply Kd.R_alloc | apply Kd.R_drewN | apply Kd.R_drew)); exact (Q_HO551 h0_)) (Kd.R_base ho23) hb) (fun _ h_ => by first | trivial | exact h_ | exact h_.1))
          have z_HO555 := fun (h0_ : b 30 = true) => (show Kd.R (Kd.int .i64) 3 w22 w.heap.size (fun _ => True) v554 y553 from by first | exact (Kd.R_elder' (by (with_reducible repeat (first | apply Kd.R_alloc | apply Kd.R_drewN | apply Kd.R_drew)); exact (Q_HO555 h0_)) (Kd.R_base ho23) hb) | exact Kd.R_mono (Kd.R_elder' (by (with_reducible repeat (first | apply Kd.R_alloc | apply Kd.R_drewN | apply Kd.R_drew)); exact (Q_HO555 h0_)) (Kd.R_base ho23) hb) (fun _ h_ => by first | trivial | exact h_ | exact h_.1))
          clear BK533
          clear HB
          have HO539 := n0_
          have BK533 := n1_
          have HB := n2_
          clear n0_ n1_ n2_
          clear hb ho23
          refine hK.out _ _ ⟨v538, v542, v546, v550, v554, (by rw [ha.out]; exact putSel_upk 5 hb_ rfl rfl rfl), (by (with_reducible repeat (first | refine blk_drewN ?_ _ | refine blk_drew ?_ | refine blk_alloc ?_ _)); exact BK533.out), (by repeat (first | (with_reducible first | exact HB.out | apply below_alloc | apply pw_below_drewN | apply below_drew1 | refine below_set ?_ GE533.out) | exact HB.out)), fun _ => (by (with_reducible repeat (first | apply Kd.R_alloc | apply Kd.R_drewN | apply Kd.R_drew)); exact HO539.out), z_HO543, z_HO547, z_HO551, z_HO555⟩
         refine steps_cons ?_ ?_
         ·rintro b a w' ⟨v538, v542, v546, v550, v554, ha, Q_BK533, Q_HB, Q_HO539, Q_HO543, Q_HO547, Q_HO551, Q_HO555⟩ hb_ hon hoff
          refine ⟨_, rfl, fun K hK => ?_⟩
          have e15 : a.tmps[15]? = some (v538) := by rw [ha]; exact putSel_on (e := (7, 15, v538)) 5 rfl rfl (hon 7 (by kernel_rfl)) rfl
          replace ha := Aside0.mk ha
          have BK533 := Aside0.mk Q_BK533
          have HB := Aside0.mk Q_HB
          have HO539 := Aside0.mk (Q_HO539 (hon 7 (by kernel_rfl)))
          obtain ⟨Ao24, co24, eo24⟩ := Kd.R_slice HO539.out
          (first | subst eo24 | (injection eo24 with f1_ f2_ f3_; have f4_ := f1_.symm; have f5_ := f3_.symm; clear f1_ f2_ f3_; subst f4_; subst f5_))
          refine goes_ Tryd.func95 (by kernel_rfl) rfl #[.int .i64 3, .slice Ao24 y537.length co24] (by rfl) rfl rfl (by first | (simp only [List.map_toArray, List.map_cons, List.map_nil, Act.eval, Array.getD_eq_getD_getElem?, Option.getD_some, e15]; done) | (simp only [List.map_toArray, List.map_cons, List.map_nil, Act.eval, Array.getD_eq_getD_getElem?, Option.getD_some, e15]; rfl)) ?_
          with_reducible refine (xid_field.calls k 3 _ _ y537 t540 _ ?side1 ?side2 A6.out).mono ?_
          (case side1 => repeat (first | exact (Kd.R_reads' HO539.out).2.2 | (with_reducible refine Kd.C_alloc ?_ _) | (with_reducible refine Kd.C_drewN ?_ _) | (with_reducible refine Kd.C_drew ?_)))
          (case side2 => exact (Kd.R_reads' HO539.out).2.1)
          rintro e w25 ⟨rfl, hb⟩
          refine ⟨_, rfl, ?_⟩
          have n0_ := Aside0.mk (Kd.R_below (by (with_reducible repeat (first | apply Kd.R_alloc | apply Kd.R_drewN | apply Kd.R_drew)); exact HO539.out) hb)
          have n1_ := Aside0.mk (blk_below (g := gb533) (o := .cells #[.bool a0_0, .bool a0_1, .int .i64 a0_2, .int .i64 a0_3, .int .i64 a0_4, .int .i64 a0_5] 72 (0, 0)) (by (with_reducible repeat (first | refine blk_drewN ?_ _ | refine blk_drew ?_ | refine blk_alloc ?_ _)); exact BK533.out) hb)
          have n2_ := Aside0.mk (below_step (by repeat (first | (with_reducible first | exact HB.out | apply below_alloc | apply pw_below_drewN | apply below_drew1 | refine below_set ?_ GE533.out) | exact HB.out)) hb)
          have z_HO543 := fun (h0_ : b 15 = true) => (show Kd.R (Kd.int .i64) 3 w25 w.heap.size (fun _ => True) v542 y541 from by first | exact (Kd.R_below (by (with_reducible repeat (first | apply Kd.R_alloc | apply Kd.R_drewN | apply Kd.R_drew)); exact (Q_HO543 h0_)) hb) | exact Kd.R_mono (Kd.R_below (by (with_reducible repeat (first | apply Kd.R_alloc | apply Kd.R_drewN | apply Kd.R_drew)); exact (Q_HO543 h0_)) hb) (fun _ h_ => by first | trivial | exact h_ | exact h_.1))
          have z_HO547 := fun (h0_ : b 20 = true) => (show Kd.R (Kd.int .i64) 3 w25 w.heap.size (fun _ => True) v546 y545 from by first | exact (Kd.R_below (by (with_reducible repeat (first | apply Kd.R_alloc | apply Kd.R_drewN | apply Kd.R_drew)); exact (Q_HO547 h0_)) hb) | exact Kd.R_mono (Kd.R_below (by (with_reducible repeat (first | apply Kd.R_alloc | apply Kd.R_drewN | apply Kd.R_drew)); exact (Q_HO547 h0_)) hb) (fun _ h_ => by first | trivial | exact h_ | exact h_.1))
          have z_HO551 := fun (h0_ : b 25 = true) => (show Kd.R (Kd.int .i64) 3 w25 w.heap.size (fun _ => True) v550 y549 from by first | exact (Kd.R_below (by (with_reducible repeat (first | apply Kd.R_alloc | apply Kd.R_drewN | apply Kd.R_drew)); exact (Q_HO551 h0_)) hb) | exact Kd.R_mono (Kd.R_below (by (with_reducible repeat (first | apply Kd.R_alloc | apply Kd.R_drewN | apply Kd.R_drew)); exact (Q_HO551 h0_)) hb) (fun _ h_ => by first | trivial | exact h_ | exact h_.1))
          have z_HO555 := fun (h0_ : b 30 = true) => (show Kd.R (Kd.int .i64) 3 w25 w.heap.size (fun _ => True) v554 y553 from by first | exact (Kd.R_below (by (with_reducible repeat (first | apply Kd.R_alloc | apply Kd.R_drewN | apply Kd.R_drew)); exact (Q_HO555 h0_)) hb) | exact Kd.R_mono (Kd.R_below (by (with_reducible repeat (first | apply Kd.R_alloc | apply Kd.R_drewN | apply Kd.R_drew)); exact (Q_HO555 h0_)) hb) (fun _ h_ => by first | trivial | exact h_ | exact h_.1))
          clear HO539
          clear BK533
          clear HB
          have HO539 := n0_
          have BK533 := n1_
          have HB := n2_
          clear n0_ n1_ n2_
          (try clear hb)
          (try clear hb2)
          (try clear hk)
          (try clear hi)
          refine hK.out _ _ ⟨.slice Ao24 y537.length co24, v542, v546, v550, v554, (by rw [ha.out]; exact putSel_upk 6 hb_ rfl rfl rfl), (by (with_reducible repeat (first | refine blk_drewN ?_ _ | refine blk_drew ?_ | refine blk_alloc ?_ _)); exact BK533.out), (by repeat (first | (with_reducible first | exact HB.out | apply below_alloc | apply pw_below_drewN | apply below_drew1 | refine below_set ?_ GE533.out) | exact HB.out)), fun _ => (by (with_reducible repeat (first | apply Kd.R_alloc | apply Kd.R_drewN | apply Kd.R_drew)); exact HO539.out), z_HO543, z_HO547, z_HO551, z_HO555⟩
         refine steps_cons ?_ ?_
         ·rintro b a w' ⟨v538, v542, v546, v550, v554, ha, Q_BK533, Q_HB, Q_HO539, Q_HO543, Q_HO547, Q_HO551, Q_HO555⟩ hb_ hon hoff
          refine ⟨_, rfl, fun K hK => ?_⟩
          have e17 : a.tmps[17]? = some (.pointer (some ⟨gb533, 2, none⟩)) := by rw [ha]; exact (putSel_off rfl).trans rfl
          replace ha := Aside0.mk ha
          have BK533 := Aside0.mk Q_BK533
          have HB := Aside0.mk Q_HB
          have hc0_ : w'.cell? ⟨gb533, 0, none⟩ = some (.bool a0_0) := (blk_cell BK533.out 0).trans rfl
          have hc1_ : w'.cell? ⟨gb533, 1, none⟩ = some (.bool a0_1) := (blk_cell BK533.out 1).trans rfl
          have hc2_ : w'.cell? ⟨gb533, 2, none⟩ = some (.int .i64 a0_2) := (blk_cell BK533.out 2).trans rfl
          have hc3_ : w'.cell? ⟨gb533, 3, none⟩ = some (.int .i64 a0_3) := (blk_cell BK533.out 3).trans rfl
          have hc4_ : w'.cell? ⟨gb533, 4, none⟩ = some (.int .i64 a0_4) := (blk_cell BK533.out 4).trans rfl
          have hc5_ : w'.cell? ⟨gb533, 5, none⟩ = some (.int .i64 a0_5) := (blk_cell BK533.out 5).trans rfl
          refine value_ (w1 := w') (v := .int .i64 a0_2) (by rfl) rfl ?_ ?_
          ·go_simp
           (try simp only [i64_w])
           try rfl
           all_goals (try ((try simp only [ByteArray.size_append] at *); omega))
          refine hK.out _ _ ⟨v538, v542, v546, v550, v554, (by rw [ha.out]; exact putSel_upk 7 hb_ rfl rfl rfl), Q_BK533, Q_HB, Q_HO539, fun h0_ => absurd ((hoff 15 (by kernel_rfl)).symm.trans h0_) (by decide), Q_HO547, Q_HO551, Q_HO555⟩
         refine steps_cons ?_ ?_
         ·rintro b a w' ⟨v538, v542, v546, v550, v554, ha, Q_BK533, Q_HB, Q_HO539, Q_HO543, Q_HO547, Q_HO551, Q_HO555⟩ hb_ hon hoff
          refine ⟨_, rfl, fun K hK => ?_⟩
          have e18 : a.tmps[18]? = some (.int .i64 a0_2) := by rw [ha]; exact putSel_on (e := (10, 18, .int .i64 a0_2)) 7 rfl rfl (hon 10 (by kernel_rfl)) rfl
          replace ha := Aside0.mk ha
          have BK533 := Aside0.mk Q_BK533
          have HB := Aside0.mk Q_HB
          refine value_ (w1 := w') (v := .int .i64 (a0_2 / 256)) (by rfl) rfl ?_ ?_
          ·go_simp
           (try simp only [i64_w])
           try rfl
           all_goals (try ((try simp only [ByteArray.size_append] at *); omega))
          refine hK.out _ _ ⟨v538, v542, v546, v550, v554, (by rw [ha.out]; exact putSel_upk 8 hb_ rfl rfl rfl), Q_BK533, Q_HB, Q_HO539, fun h0_ => absurd ((hoff 15 (by kernel_rfl)).symm.trans h0_) (by decide), Q_HO547, Q_HO551, Q_HO555⟩
         refine steps_cons ?_ ?_
         ·rintro b a w' ⟨v538, v542, v546, v550, v554, ha, Q_BK533, Q_HB, Q_HO539, Q_HO543, Q_HO547, Q_HO551, Q_HO555⟩ hb_ hon hoff
          refine ⟨_, rfl, fun K hK => ?_⟩
          have e20 : a.tmps[20]? = some (.pointer (some ⟨gb533, 2, none⟩)) := by rw [ha]; exact (putSel_off rfl).trans rfl
          replace ha := Aside0.mk ha
          have BK533 := Aside0.mk Q_BK533
          have HB := Aside0.mk Q_HB
          have hc0_ : w'.cell? ⟨gb533, 0, none⟩ = some (.bool a0_0) := (blk_cell BK533.out 0).trans rfl
          have hc1_ : w'.cell? ⟨gb533, 1, none⟩ = some (.bool a0_1) := (blk_cell BK533.out 1).trans rfl
          have hc2_ : w'.cell? ⟨gb533, 2, none⟩ = some (.int .i64 a0_2) := (blk_cell BK533.out 2).trans rfl
          have hc3_ : w'.cell? ⟨gb533, 3, none⟩ = some (.int .i64 a0_3) := (blk_cell BK533.out 3).trans rfl
          have hc4_ : w'.cell? ⟨gb533, 4, none⟩ = some (.int .i64 a0_4) := (blk_cell BK533.out 4).trans rfl
          have hc5_ : w'.cell? ⟨gb533, 5, none⟩ = some (.int .i64 a0_5) := (blk_cell BK533.out 5).trans rfl
          refine value_ (w1 := w') (v := .int .i64 a0_2) (by rfl) rfl ?_ ?_
          ·go_simp
           (try simp only [i64_w])
           try rfl
           all_goals (try ((try simp only [ByteArray.size_append] at *); omega))
          refine hK.out _ _ ⟨v538, v542, v546, v550, v554, (by rw [ha.out]; exact putSel_upk 9 hb_ rfl rfl rfl), Q_BK533, Q_HB, Q_HO539, fun h0_ => absurd ((hoff 15 (by kernel_rfl)).symm.trans h0_) (by decide), Q_HO547, Q_HO551, Q_HO555⟩
         refine steps_cons ?_ ?_
         ·rintro b a w' ⟨v538, v542, v546, v550, v554, ha, Q_BK533, Q_HB, Q_HO539, Q_HO543, Q_HO547, Q_HO551, Q_HO555⟩ hb_ hon hoff
          refine ⟨_, rfl, fun K hK => ?_⟩
          have e21 : a.tmps[21]? = some (.int .i64 a0_2) := by rw [ha]; exact putSel_on (e := (13, 21, .int .i64 a0_2)) 9 rfl rfl (hon 13 (by kernel_rfl)) rfl
          replace ha := Aside0.mk ha
          have BK533 := Aside0.mk Q_BK533
          have HB := Aside0.mk Q_HB
          refine value_ (w1 := w') (v := .int .i64 (Go.bits .and .i64 a0_2 255)) (by rfl) rfl ?_ ?_
          ·go_simp
           (try simp only [i64_w])
           try rfl
           all_goals (try ((try simp only [ByteArray.size_append] at *); omega))
          refine hK.out _ _ ⟨v538, v542, v546, v550, v554, (by rw [ha.out]; exact putSel_upk 10 hb_ rfl rfl rfl), Q_BK533, Q_HB, Q_HO539, fun h0_ => absurd ((hoff 15 (by kernel_rfl)).symm.trans h0_) (by decide), Q_HO547, Q_HO551, Q_HO555⟩
         refine steps_cons ?_ ?_
         ·rintro b a w' ⟨v538, v542, v546, v550, v554, ha, Q_BK533, Q_HB, Q_HO539, Q_HO543, Q_HO547, Q_HO551, Q_HO555⟩ hb_ hon hoff
          refine ⟨_, rfl, fun K hK => ?_⟩
          have e19 : a.tmps[19]? = some (.int .i64 (a0_2 / 256)) := by rw [ha]; exact putSel_on (e := (11, 19, .int .i64 (a0_2 / 256))) 8 rfl rfl (hon 11 (by kernel_rfl)) rfl
          have e22 : a.tmps[22]? = some (.int .i64 (Go.bits .and .i64 a0_2 255)) := by rw [ha]; exact putSel_on (e := (14, 22, .int .i64 (Go.bits .and .i64 a0_2 255))) 10 rfl rfl (hon 14 (by kernel_rfl)) rfl
          replace ha := Aside0.mk ha
          have BK533 := Aside0.mk Q_BK533
          have HB := Aside0.mk Q_HB
          refine Kd.R_lit_step (Kd.int .i64) _ 3 ?hg (N := 23) ?hd (xs := ([a0_2 / 256, Go.bits .and .i64 a0_2 255] : List Int)) (inner := [.int .i64 (a0_2 / 256), .int .i64 (Go.bits .and .i64 a0_2 255)]) (ok := fun _ => True) (okp := fun _ => True) ?hr ?hp (fun _ hk => hk) trivial (Below.refl _ _) (Nat.le_refl _) (by simp) ?_; (case hd => rfl); (case hg => rfl); (case hr => first | (go_simp; done) | (go_simp; rfl)); (case hp => exact (Reps.one (show Kd.M (Kd.int .i64) _ _ _ (a0_2 / 256) [.int .i64 (a0_2 / 256)] from rfl) (Reps.one (show Kd.M (Kd.int .i64) _ _ _ (Go.bits .and .i64 a0_2 255) [.int .i64 (Go.bits .and .i64 a0_2 255)] from rfl) (Reps.none _ _))))
          intro v542 w21 ho22 hb hg_ hnew_
          clear hg_ hnew_
          (first | rw [← Ny541.out] at ho22 | (simp only [Int.reduceToNat] at ho22; rw [← Ny541.out] at ho22))
          have n0_ := Aside0.mk (Kd.R_lower ho22 (below_size (by repeat (first | (with_reducible first | exact HB.out | apply below_alloc | apply pw_below_drewN | apply below_drew1 | refine below_set ?_ GE533.out) | exact HB.out))))
          have n1_ := Aside0.mk (blk_below (g := gb533) (o := .cells #[.bool a0_0, .bool a0_1, .int .i64 a0_2, .int .i64 a0_3, .int .i64 a0_4, .int .i64 a0_5] 72 (0, 0)) (by (with_reducible repeat (first | refine blk_drewN ?_ _ | refine blk_drew ?_ | refine blk_alloc ?_ _)); exact BK533.out) hb)
          have n2_ := Aside0.mk (below_step (by repeat (first | (with_reducible first | exact HB.out | apply below_alloc | apply pw_below_drewN | apply below_drew1 | refine below_set ?_ GE533.out) | exact HB.out)) hb)
          have z_HO539 := fun (h0_ : b 7 = true) => (show Kd.R (Kd.int .i64) 3 w21 w.heap.size (fun _ => True) v538 y537 from by first | exact (Kd.R_elder' (by (with_reducible repeat (first | apply Kd.R_alloc | apply Kd.R_drewN | apply Kd.R_drew)); exact (Q_HO539 h0_)) (Kd.R_base ho22) hb) | exact Kd.R_mono (Kd.R_elder' (by (with_reducible repeat (first | apply Kd.R_alloc | apply Kd.R_drewN | apply Kd.R_drew)); exact (Q_HO539 h0_)) (Kd.R_base ho22) hb) (fun _ h_ => by first | trivial | exact h_ | exact h_.1))
          have z_HO547 := fun (h0_ : b 20 = true) => (show Kd.R (Kd.int .i64) 3 w21 w.heap.size (fun _ => True) v546 y545 from by first | exact (Kd.R_elder' (by (with_reducible repeat (first | apply Kd.R_alloc | apply Kd.R_drewN | apply Kd.R_drew)); exact (Q_HO547 h0_)) (Kd.R_base ho22) hb) | exact Kd.R_mono (Kd.R_elder' (by (with_reducible repeat (first | apply Kd.R_alloc | apply Kd.R_drewN | apply Kd.R_drew)); exact (Q_HO547 h0_)) (Kd.R_base ho22) hb) (fun _ h_ => by first | trivial | exact h_ | exact h_.1))
          have z_HO551 := fun (h0_ : b 25 = true) => (show Kd.R (Kd.int .i64) 3 w21 w.heap.size (fun _ => True) v550 y549 from by first | exact (Kd.R_elder' (by (with_reducible repeat (first | apply Kd.R_alloc | apply Kd.R_drewN | apply Kd.R_drew)); exact (Q_HO551 h0_)) (Kd.R_base ho22) hb) | exact Kd.R_mono (Kd.R_elder' (by (with_reducible repeat (first | apply Kd.R_alloc | apply Kd.R_drewN | apply Kd.R_drew)); exact (Q_HO551 h0_)) (Kd.R_base ho22) hb) (fun _ h_ => by first | trivial | exact h_ | exact h_.1))
          have z_HO555 := fun (h0_ : b 30 = true) => (show Kd.R (Kd.int .i64) 3 w21 w.heap.size (fun _ => True) v554 y553 from by first | exact (Kd.R_elder' (by (with_reducible repeat (first | apply Kd.R_alloc | apply Kd.R_drewN | apply Kd.R_drew)); exact (Q_HO555 h0_)) (Kd.R_base ho22) hb) | exact Kd.R_mono (Kd.R_elder' (by (with_reducible repeat (first | apply Kd.R_alloc | apply Kd.R_drewN | apply Kd.R_drew)); exact (Q_HO555 h0_)) (Kd.R_base ho22) hb) (fun _ h_ => by first | trivial | exact h_ | exact h_.1))
          clear BK533
          clear HB
          have HO543 := n0_
          have BK533 := n1_
          have HB := n2_
          clear n0_ n1_ n2_
          clear hb ho22
          refine hK.out _ _ ⟨v538, v542, v546, v550, v554, (by rw [ha.out]; exact putSel_upk 11 hb_ rfl rfl rfl), (by (with_reducible repeat (first | refine blk_drewN ?_ _ | refine blk_drew ?_ | refine blk_alloc ?_ _)); exact BK533.out), (by repeat (first | (with_reducible first | exact HB.out | apply below_alloc | apply pw_below_drewN | apply below_drew1 | refine below_set ?_ GE533.out) | exact HB.out)), z_HO539, fun _ => (by (with_reducible repeat (first | apply Kd.R_alloc | apply Kd.R_drewN | apply Kd.R_drew)); exact HO543.out), z_HO547, z_HO551, z_HO555⟩
         refine steps_cons ?_ ?_
         ·rintro b a w' ⟨v538, v542, v546, v550, v554, ha, Q_BK533, Q_HB, Q_HO539, Q_HO543, Q_HO547, Q_HO551, Q_HO555⟩ hb_ hon hoff
          refine ⟨_, rfl, fun K hK => ?_⟩
          have e23 : a.tmps[23]? = some (v542) := by rw [ha]; exact putSel_on (e := (15, 23, v542)) 11 rfl rfl (hon 15 (by kernel_rfl)) rfl
          replace ha := Aside0.mk ha
          have BK533 := Aside0.mk Q_BK533
          have HB := Aside0.mk Q_HB
          have HO539 := Aside0.mk (Q_HO539 (hon 7 (by kernel_rfl)))
          have HO543 := Aside0.mk (Q_HO543 (hon 15 (by kernel_rfl)))
          obtain ⟨Ao28, co28, eo28⟩ := Kd.R_slice HO543.out
          (first | subst eo28 | (injection eo28 with f1_ f2_ f3_; have f4_ := f1_.symm; have f5_ := f3_.symm; clear f1_ f2_ f3_; subst f4_; subst f5_))
          refine goes_ Tryd.func95 (by kernel_rfl) rfl #[.int .i64 6, .slice Ao28 y541.length co28] (by rfl) rfl rfl (by first | (simp only [List.map_toArray, List.map_cons, List.map_nil, Act.eval, Array.getD_eq_getD_getElem?, Option.getD_some, e23]; done) | (simp only [List.map_toArray, List.map_cons, List.map_nil, Act.eval, Array.getD_eq_getD_getElem?, Option.getD_some, e23]; rfl)) ?_
          with_reducible refine (xid_field.calls k 6 _ _ y541 t544 _ ?side1 ?side2 A7.out).mono ?_
          (case side1 => repeat (first | exact (Kd.R_reads' HO543.out).2.2 | (with_reducible refine Kd.C_alloc ?_ _) | (with_reducible refine Kd.C_drewN ?_ _) | (with_reducible refine Kd.C_drew ?_)))
          (case side2 => exact (Kd.R_reads' HO543.out).2.1)
          rintro e w29 ⟨rfl, hb⟩
          refine ⟨_, rfl, ?_⟩
          have n0_ := Aside0.mk (Kd.R_below (by (with_reducible repeat (first | apply Kd.R_alloc | apply Kd.R_drewN | apply Kd.R_drew)); exact HO539.out) hb)
          have n1_ := Aside0.mk (Kd.R_below (by (with_reducible repeat (first | apply Kd.R_alloc | apply Kd.R_drewN | apply Kd.R_drew)); exact HO543.out) hb)
          have n2_ := Aside0.mk (blk_below (g := gb533) (o := .cells #[.bool a0_0, .bool a0_1, .int .i64 a0_2, .int .i64 a0_3, .int .i64 a0_4, .int .i64 a0_5] 72 (0, 0)) (by (with_reducible repeat (first | refine blk_drewN ?_ _ | refine blk_drew ?_ | refine blk_alloc ?_ _)); exact BK533.out) hb)
          have n3_ := Aside0.mk (below_step (by repeat (first | (with_reducible first | exact HB.out | apply below_alloc | apply pw_below_drewN | apply below_drew1 | refine below_set ?_ GE533.out) | exact HB.out)) hb)
          have z_HO547 := fun (h0_ : b 20 = true) => (show Kd.R (Kd.int .i64) 3 w29 w.heap.size (fun _ => True) v546 y545 from by first | exact (Kd.R_below (by (with_reducible repeat (first | apply Kd.R_alloc | apply Kd.R_drewN | apply Kd.R_drew)); exact (Q_HO547 h0_)) hb) | exact Kd.R_mono (Kd.R_below (by (with_reducible repeat (first | apply Kd.R_alloc | apply Kd.R_drewN | apply Kd.R_drew)); exact (Q_HO547 h0_)) hb) (fun _ h_ => by first | trivial | exact h_ | exact h_.1))
          have z_HO551 := fun (h0_ : b 25 = true) => (show Kd.R (Kd.int .i64) 3 w29 w.heap.size (fun _ => True) v550 y549 from by first | exact (Kd.R_below (by (with_reducible repeat (first | apply Kd.R_alloc | apply Kd.R_drewN | apply Kd.R_drew)); exact (Q_HO551 h0_)) hb) | exact Kd.R_mono (Kd.R_below (by (with_reducible repeat (first | apply Kd.R_alloc | apply Kd.R_drewN | apply Kd.R_drew)); exact (Q_HO551 h0_)) hb) (fun _ h_ => by first | trivial | exact h_ | exact h_.1))
          have z_HO555 := fun (h0_ : b 30 = true) => (show Kd.R (Kd.int .i64) 3 w29 w.heap.size (fun _ => True) v554 y553 from by first | exact (Kd.R_below (by (with_reducible repeat (first | apply Kd.R_alloc | apply Kd.R_drewN | apply Kd.R_drew)); exact (Q_HO555 h0_)) hb) | exact Kd.R_mono (Kd.R_below (by (with_reducible repeat (first | apply Kd.R_alloc | apply Kd.R_drewN | apply Kd.R_drew)); exact (Q_HO555 h0_)) hb) (fun _ h_ => by first | trivial | exact h_ | exact h_.1))
          clear HO539
          clear HO543
          clear BK533
          clear HB
          have HO539 := n0_
          have HO543 := n1_
          have BK533 := n2_
          have HB := n3_
          clear n0_ n1_ n2_ n3_
          (try clear hb)
          (try clear hb2)
          (try clear hk)
          (try clear hi)
          refine hK.out _ _ ⟨v538, .slice Ao28 y541.length co28, v546, v550, v554, (by rw [ha.out]; exact putSel_upk 12 hb_ rfl rfl rfl), (by (with_reducible repeat (first | refine blk_drewN ?_ _ | refine blk_drew ?_ | refine blk_alloc ?_ _)); exact BK533.out), (by repeat (first | (with_reducible first | exact HB.out | apply below_alloc | apply pw_below_drewN | apply below_drew1 | refine below_set ?_ GE533.out) | exact HB.out)), fun _ => (by (with_reducible repeat (first | apply Kd.R_alloc | apply Kd.R_drewN | apply Kd.R_drew)); exact HO539.out), fun _ => (by (with_reducible repeat (first | apply Kd.R_alloc | apply Kd.R_drewN | apply Kd.R_drew)); exact HO543.out), z_HO547, z_HO551, z_HO555⟩
         refine steps_cons ?_ ?_
         ·rintro b a w' ⟨v538, v542, v546, v550, v554, ha, Q_BK533, Q_HB, Q_HO539, Q_HO543, Q_HO547, Q_HO551, Q_HO555⟩ hb_ hon hoff
          refine ⟨_, rfl, fun K hK => ?_⟩
          have e16 : a.tmps[16]? = some (.string t540) := by rw [ha]; exact putSel_on (e := (8, 16, .string t540)) 6 rfl rfl (hon 8 (by kernel_rfl)) rfl
          have e24 : a.tmps[24]? = some (.string t544) := by rw [ha]; exact putSel_on (e := (16, 24, .string t544)) 12 rfl rfl (hon 16 (by kernel_rfl)) rfl
          replace ha := Aside0.mk ha
          have BK533 := Aside0.mk Q_BK533
          have HB := Aside0.mk Q_HB
          have HO539 := Aside0.mk (Q_HO539 (hon 7 (by kernel_rfl)))
          have HO543 := Aside0.mk (Q_HO543 (hon 15 (by kernel_rfl)))
          refine value_ (w1 := w') (v := .string (t540 ++ t544)) (by rfl) rfl ?_ ?_
          ·go_simp
           (try simp only [i64_w])
           try rfl
           all_goals (try ((try simp only [ByteArray.size_append] at *); omega))
          refine hK.out _ _ ⟨v538, v542, v546, v550, v554, (by rw [ha.out]; exact putSel_upk 13 hb_ rfl rfl rfl), Q_BK533, Q_HB, Q_HO539, Q_HO543, Q_HO547, Q_HO551, Q_HO555⟩
         refine steps_cons ?_ ?_
         ·rintro b a w' ⟨v538, v542, v546, v550, v554, ha, Q_BK533, Q_HB, Q_HO539, Q_HO543, Q_HO547, Q_HO551, Q_HO555⟩ hb_ hon hoff
          refine ⟨_, rfl, fun K hK => ?_⟩
          have e26 : a.tmps[26]? = some (.pointer (some ⟨gb533, 3, none⟩)) := by rw [ha]; exact (putSel_off rfl).trans rfl
          replace ha := Aside0.mk ha
          have BK533 := Aside0.mk Q_BK533
          have HB := Aside0.mk Q_HB
          have hc0_ : w'.cell? ⟨gb533, 0, none⟩ = some (.bool a0_0) := (blk_cell BK533.out 0).trans rfl
          have hc1_ : w'.cell? ⟨gb533, 1, none⟩ = some (.bool a0_1) := (blk_cell BK533.out 1).trans rfl
          have hc2_ : w'.cell? ⟨gb533, 2, none⟩ = some (.int .i64 a0_2) := (blk_cell BK533.out 2).trans rfl
          have hc3_ : w'.cell? ⟨gb533, 3, none⟩ = some (.int .i64 a0_3) := (blk_cell BK533.out 3).trans rfl
          have hc4_ : w'.cell? ⟨gb533, 4, none⟩ = some (.int .i64 a0_4) := (blk_cell BK533.out 4).trans rfl
          have hc5_ : w'.cell? ⟨gb533, 5, none⟩ = some (.int .i64 a0_5) := (blk_cell BK533.out 5).trans rfl
          refine value_ (w1 := w') (v := .int .i64 a0_3) (by rfl) rfl ?_ ?_
          ·go_simp
           (try simp only [i64_w])
           try rfl
           all_goals (try ((try simp only [ByteArray.size_append] at *); omega))
          refine hK.out _ _ ⟨v538, v542, v546, v550, v554, (by rw [ha.out]; exact putSel_upk 14 hb_ rfl rfl rfl), Q_BK533, Q_HB, Q_HO539, Q_HO543, fun h0_ => absurd ((hoff 20 (by kernel_rfl)).symm.trans h0_) (by decide), Q_HO551, Q_HO555⟩
         refine steps_cons ?_ ?_
         ·rintro b a w' ⟨v538, v542, v546, v550, v554, ha, Q_BK533, Q_HB, Q_HO539, Q_HO543, Q_HO547, Q_HO551, Q_HO555⟩ hb_ hon hoff
          refine ⟨_, rfl, fun K hK => ?_⟩
          have e27 : a.tmps[27]? = some (.int .i64 a0_3) := by rw [ha]; exact putSel_on (e := (19, 27, .int .i64 a0_3)) 14 rfl rfl (hon 19 (by kernel_rfl)) rfl
          replace ha := Aside0.mk ha
          have BK533 := Aside0.mk Q_BK533
          have HB := Aside0.mk Q_HB
          refine Kd.R_lit_step (Kd.int .i64) _ 3 ?hg (N := 28) ?hd (xs := ([a0_3] : List Int)) (inner := [.int .i64 a0_3]) (ok := fun _ => True) (okp := fun _ => True) ?hr ?hp (fun _ hk => hk) trivial (Below.refl _ _) (Nat.le_refl _) (by simp) ?_; (case hd => rfl); (case hg => rfl); (case hr => first | (go_simp; done) | (go_simp; rfl)); (case hp => exact (Reps.one (show Kd.M (Kd.int .i64) _ _ _ a0_3 [.int .i64 a0_3] from rfl) (Reps.none _ _)))
          intro v546 w21 ho22 hb hg_ hnew_
          clear hg_ hnew_
          (first | rw [← Ny545.out] at ho22 | (simp only [Int.reduceToNat] at ho22; rw [← Ny545.out] at ho22))
          have n0_ := Aside0.mk (Kd.R_lower ho22 (below_size (by repeat (first | (with_reducible first | exact HB.out | apply below_alloc | apply pw_below_drewN | apply below_drew1 | refine below_set ?_ GE533.out) | exact HB.out))))
          have n1_ := Aside0.mk (blk_below (g := gb533) (o := .cells #[.bool a0_0, .bool a0_1, .int .i64 a0_2, .int .i64 a0_3, .int .i64 a0_4, .int .i64 a0_5] 72 (0, 0)) (by (with_reducible repeat (first | refine blk_drewN ?_ _ | refine blk_drew ?_ | refine blk_alloc ?_ _)); exact BK533.out) hb)
          have n2_ := Aside0.mk (below_step (by repeat (first | (with_reducible first | exact HB.out | apply below_alloc | apply pw_below_drewN | apply below_drew1 | refine below_set ?_ GE533.out) | exact HB.out)) hb)
          have z_HO539 := fun (h0_ : b 7 = true) => (show Kd.R (Kd.int .i64) 3 w21 w.heap.size (fun _ => True) v538 y537 from by first | exact (Kd.R_elder' (by (with_reducible repeat (first | apply Kd.R_alloc | apply Kd.R_drewN | apply Kd.R_drew)); exact (Q_HO539 h0_)) (Kd.R_base ho22) hb) | exact Kd.R_mono (Kd.R_elder' (by (with_reducible repeat (first | apply Kd.R_alloc | apply Kd.R_drewN | apply Kd.R_drew)); exact (Q_HO539 h0_)) (Kd.R_base ho22) hb) (fun _ h_ => by first | trivial | exact h_ | exact h_.1))
          have z_HO543 := fun (h0_ : b 15 = true) => (show Kd.R (Kd.int .i64) 3 w21 w.heap.size (fun _ => True) v542 y541 from by first | exact (Kd.R_elder' (by (with_reducible repeat (first | apply Kd.R_alloc | apply Kd.R_drewN | apply Kd.R_drew)); exact (Q_HO543 h0_)) (Kd.R_base ho22) hb) | exact Kd.R_mono (Kd.R_elder' (by (with_reducible repeat (first | apply Kd.R_alloc | apply Kd.R_drewN | apply Kd.R_drew)); exact (Q_HO543 h0_)) (Kd.R_base ho22) hb) (fun _ h_ => by first | trivial | exact h_ | exact h_.1))
          have z_HO551 := fun (h0_ : b 25 = true) => (show Kd.R (Kd.int .i64) 3 w21 w.heap.size (fun _ => True) v550 y549 from by first | exact (Kd.R_elder' (by (with_reducible repeat (first | apply Kd.R_alloc | apply Kd.R_drewN | apply Kd.R_drew)); exact (Q_HO551 h0_)) (Kd.R_base ho22) hb) | exact Kd.R_mono (Kd.R_elder' (by (with_reducible repeat (first | apply Kd.R_alloc | apply Kd.R_drewN | apply Kd.R_drew)); exact (Q_HO551 h0_)) (Kd.R_base ho22) hb) (fun _ h_ => by first | trivial | exact h_ | exact h_.1))
          have z_HO555 := fun (h0_ : b 30 = true) => (show Kd.R (Kd.int .i64) 3 w21 w.heap.size (fun _ => True) v554 y553 from by first | exact (Kd.R_elder' (by (with_reducible repeat (first | apply Kd.R_alloc | apply Kd.R_drewN | apply Kd.R_drew)); exact (Q_HO555 h0_)) (Kd.R_base ho22) hb) | exact Kd.R_mono (Kd.R_elder' (by (with_reducible repeat (first | apply Kd.R_alloc | apply Kd.R_drewN | apply Kd.R_drew)); exact (Q_HO555 h0_)) (Kd.R_base ho22) hb) (fun _ h_ => by first | trivial | exact h_ | exact h_.1))
          clear BK533
          clear HB
          have HO547 := n0_
          have BK533 := n1_
          have HB := n2_
          clear n0_ n1_ n2_
          clear hb ho22
          refine hK.out _ _ ⟨v538, v542, v546, v550, v554, (by rw [ha.out]; exact putSel_upk 15 hb_ rfl rfl rfl), (by (with_reducible repeat (first | refine blk_drewN ?_ _ | refine blk_drew ?_ | refine blk_alloc ?_ _)); exact BK533.out), (by repeat (first | (with_reducible first | exact HB.out | apply below_alloc | apply pw_below_drewN | apply below_drew1 | refine below_set ?_ GE533.out) | exact HB.out)), z_HO539, z_HO543, fun _ => (by (with_reducible repeat (first | apply Kd.R_alloc | apply Kd.R_drewN | apply Kd.R_drew)); exact HO547.out), z_HO551, z_HO555⟩
         refine steps_cons ?_ ?_
         ·rintro b a w' ⟨v538, v542, v546, v550, v554, ha, Q_BK533, Q_HB, Q_HO539, Q_HO543, Q_HO547, Q_HO551, Q_HO555⟩ hb_ hon hoff
          refine ⟨_, rfl, fun K hK => ?_⟩
          have e28 : a.tmps[28]? = some (v546) := by rw [ha]; exact putSel_on (e := (20, 28, v546)) 15 rfl rfl (hon 20 (by kernel_rfl)) rfl
          replace ha := Aside0.mk ha
          have BK533 := Aside0.mk Q_BK533
          have HB := Aside0.mk Q_HB
          have HO539 := Aside0.mk (Q_HO539 (hon 7 (by kernel_rfl)))
          have HO543 := Aside0.mk (Q_HO543 (hon 15 (by kernel_rfl)))
          have HO547 := Aside0.mk (Q_HO547 (hon 20 (by kernel_rfl)))
          obtain ⟨Ao32, co32, eo32⟩ := Kd.R_slice HO547.out
          (first | subst eo32 | (injection eo32 with f1_ f2_ f3_; have f4_ := f1_.symm; have f5_ := f3_.symm; clear f1_ f2_ f3_; subst f4_; subst f5_))
          refine goes_ Tryd.func95 (by kernel_rfl) rfl #[.int .i64 8, .slice Ao32 y545.length co32] (by rfl) rfl rfl (by first | (simp only [List.map_toArray, List.map_cons, List.map_nil, Act.eval, Array.getD_eq_getD_getElem?, Option.getD_some, e28]; done) | (simp only [List.map_toArray, List.map_cons, List.map_nil, Act.eval, Array.getD_eq_getD_getElem?, Option.getD_some, e28]; rfl)) ?_
          with_reducible refine (xid_field.calls k 8 _ _ y545 t548 _ ?side1 ?side2 A9.out).mono ?_
          (case side1 => repeat (first | exact (Kd.R_reads' HO547.out).2.2 | (with_reducible refine Kd.C_alloc ?_ _) | (with_reducible refine Kd.C_drewN ?_ _) | (with_reducible refine Kd.C_drew ?_)))
          (case side2 => exact (Kd.R_reads' HO547.out).2.1)
          rintro e w33 ⟨rfl, hb⟩
          refine ⟨_, rfl, ?_⟩
          have n0_ := Aside0.mk (Kd.R_below (by (with_reducible repeat (first | apply Kd.R_alloc | apply Kd.R_drewN | apply Kd.R_drew)); exact HO539.out) hb)
          have n1_ := Aside0.mk (Kd.R_below (by (with_reducible repeat (first | apply Kd.R_alloc | apply Kd.R_drewN | apply Kd.R_drew)); exact HO543.out) hb)
          have n2_ := Aside0.mk (Kd.R_below (by (with_reducible repeat (first | apply Kd.R_alloc | apply Kd.R_drewN | apply Kd.R_drew)); exact HO547.out) hb)
          have n3_ := Aside0.mk (blk_below (g := gb533) (o := .cells #[.bool a0_0, .bool a0_1, .int .i64 a0_2, .int .i64 a0_3, .int .i64 a0_4, .int .i64 a0_5] 72 (0, 0)) (by (with_reducible repeat (first | refine blk_drewN ?_ _ | refine blk_drew ?_ | refine blk_alloc ?_ _)); exact BK533.out) hb)
          have n4_ := Aside0.mk (below_step (by repeat (first | (with_reducible first | exact HB.out | apply below_alloc | apply pw_below_drewN | apply below_drew1 | refine below_set ?_ GE533.out) | exact HB.out)) hb)
          have z_HO551 := fun (h0_ : b 25 = true) => (show Kd.R (Kd.int .i64) 3 w33 w.heap.size (fun _ => True) v550 y549 from by first | exact (Kd.R_below (by (with_reducible repeat (first | apply Kd.R_alloc | apply Kd.R_drewN | apply Kd.R_drew)); exact (Q_HO551 h0_)) hb) | exact Kd.R_mono (Kd.R_below (by (with_reducible repeat (first | apply Kd.R_alloc | apply Kd.R_drewN | apply Kd.R_drew)); exact (Q_HO551 h0_)) hb) (fun _ h_ => by first | trivial | exact h_ | exact h_.1))
          have z_HO555 := fun (h0_ : b 30 = true) => (show Kd.R (Kd.int .i64) 3 w33 w.heap.size (fun _ => True) v554 y553 from by first | exact (Kd.R_below (by (with_reducible repeat (first | apply Kd.R_alloc | apply Kd.R_drewN | apply Kd.R_drew)); exact (Q_HO555 h0_)) hb) | exact Kd.R_mono (Kd.R_below (by (with_reducible repeat (first | apply Kd.R_alloc | apply Kd.R_drewN | apply Kd.R_drew)); exact (Q_HO555 h0_)) hb) (fun _ h_ => by first | trivial | exact h_ | exact h_.1))
          clear HO539
          clear HO543
          clear HO547
          clear BK533
          clear HB
          have HO539 := n0_
          have HO543 := n1_
          have HO547 := n2_
          have BK533 := n3_
          have HB := n4_
          clear n0_ n1_ n2_ n3_ n4_
          (try clear hb)
          (try clear hb2)
          (try clear hk)
          (try clear hi)
          refine hK.out _ _ ⟨v538, v542, .slice Ao32 y545.length co32, v550, v554, (by rw [ha.out]; exact putSel_upk 16 hb_ rfl rfl rfl), (by (with_reducible repeat (first | refine blk_drewN ?_ _ | refine blk_drew ?_ | refine blk_alloc ?_ _)); exact BK533.out), (by repeat (first | (with_reducible first | exact HB.out | apply below_alloc | apply pw_below_drewN | apply below_drew1 | refine below_set ?_ GE533.out) | exact HB.out)), fun _ => (by (with_reducible repeat (first | apply Kd.R_alloc | apply Kd.R_drewN | apply Kd.R_drew)); exact HO539.out), fun _ => (by (with_reducible repeat (first | apply Kd.R_alloc | apply Kd.R_drewN | apply Kd.R_drew)); exact HO543.out), fun _ => (by (with_reducible repeat (first | apply Kd.R_alloc | apply Kd.R_drewN | apply Kd.R_drew)); exact HO547.out), z_HO551, z_HO555⟩
         refine steps_cons ?_ ?_
         ·rintro b a w' ⟨v538, v542, v546, v550, v554, ha, Q_BK533, Q_HB, Q_HO539, Q_HO543, Q_HO547, Q_HO551, Q_HO555⟩ hb_ hon hoff
          refine ⟨_, rfl, fun K hK => ?_⟩
          have e25 : a.tmps[25]? = some (.string (t540 ++ t544)) := by rw [ha]; exact putSel_on (e := (17, 25, .string (t540 ++ t544))) 13 rfl rfl (hon 17 (by kernel_rfl)) rfl
          have e29 : a.tmps[29]? = some (.string t548) := by rw [ha]; exact putSel_on (e := (21, 29, .string t548)) 16 rfl rfl (hon 21 (by kernel_rfl)) rfl
          replace ha := Aside0.mk ha
          have BK533 := Aside0.mk Q_BK533
          have HB := Aside0.mk Q_HB
          have HO539 := Aside0.mk (Q_HO539 (hon 7 (by kernel_rfl)))
          have HO543 := Aside0.mk (Q_HO543 (hon 15 (by kernel_rfl)))
          have HO547 := Aside0.mk (Q_HO547 (hon 20 (by kernel_rfl)))
          refine value_ (w1 := w') (v := .string ((t540 ++ t544) ++ t548)) (by rfl) rfl ?_ ?_
          ·go_simp
           (try simp only [i64_w])
           try rfl
           all_goals (try ((try simp only [ByteArray.size_append] at *); omega))
          refine hK.out _ _ ⟨v538, v542, v546, v550, v554, (by rw [ha.out]; exact putSel_upk 17 hb_ rfl rfl rfl), Q_BK533, Q_HB, Q_HO539, Q_HO543, Q_HO547, Q_HO551, Q_HO555⟩
         refine steps_cons ?_ ?_
         ·rintro b a w' ⟨v538, v542, v546, v550, v554, ha, Q_BK533, Q_HB, Q_HO539, Q_HO543, Q_HO547, Q_HO551, Q_HO555⟩ hb_ hon hoff
          refine ⟨_, rfl, fun K hK => ?_⟩
          have e31 : a.tmps[31]? = some (.pointer (some ⟨gb533, 4, none⟩)) := by rw [ha]; exact (putSel_off rfl).trans rfl
          replace ha := Aside0.mk ha
          have BK533 := Aside0.mk Q_BK533
          have HB := Aside0.mk Q_HB
          have hc0_ : w'.cell? ⟨gb533, 0, none⟩ = some (.bool a0_0) := (blk_cell BK533.out 0).trans rfl
          have hc1_ : w'.cell? ⟨gb533, 1, none⟩ = some (.bool a0_1) := (blk_cell BK533.out 1).trans rfl
          have hc2_ : w'.cell? ⟨gb533, 2, none⟩ = some (.int .i64 a0_2) := (blk_cell BK533.out 2).trans rfl
          have hc3_ : w'.cell? ⟨gb533, 3, none⟩ = some (.int .i64 a0_3) := (blk_cell BK533.out 3).trans rfl
          have hc4_ : w'.cell? ⟨gb533, 4, none⟩ = some (.int .i64 a0_4) := (blk_cell BK533.out 4).trans rfl
          have hc5_ : w'.cell? ⟨gb533, 5, none⟩ = some (.int .i64 a0_5) := (blk_cell BK533.out 5).trans rfl
          refine value_ (w1 := w') (v := .int .i64 a0_4) (by rfl) rfl ?_ ?_
          ·go_simp
           (try simp only [i64_w])
           try rfl
           all_goals (try ((try simp only [ByteArray.size_append] at *); omega))
          refine hK.out _ _ ⟨v538, v542, v546, v550, v554, (by rw [ha.out]; exact putSel_upk 18 hb_ rfl rfl rfl), Q_BK533, Q_HB, Q_HO539, Q_HO543, Q_HO547, fun h0_ => absurd ((hoff 25 (by kernel_rfl)).symm.trans h0_) (by decide), Q_HO555⟩
         refine steps_cons ?_ ?_
         ·rintro b a w' ⟨v538, v542, v546, v550, v554, ha, Q_BK533, Q_HB, Q_HO539, Q_HO543, Q_HO547, Q_HO551, Q_HO555⟩ hb_ hon hoff
          refine ⟨_, rfl, fun K hK => ?_⟩
          have e32 : a.tmps[32]? = some (.int .i64 a0_4) := by rw [ha]; exact putSel_on (e := (24, 32, .int .i64 a0_4)) 18 rfl rfl (hon 24 (by kernel_rfl)) rfl
          replace ha := Aside0.mk ha
          have BK533 := Aside0.mk Q_BK533
          have HB := Aside0.mk Q_HB
          refine Kd.R_lit_step (Kd.int .i64) _ 3 ?hg (N := 33) ?hd (xs := ([a0_4] : List Int)) (inner := [.int .i64 a0_4]) (ok := fun _ => True) (okp := fun _ => True) ?hr ?hp (fun _ hk => hk) trivial (Below.refl _ _) (Nat.le_refl _) (by simp) ?_; (case hd => rfl); (case hg => rfl); (case hr => first | (go_simp; done) | (go_simp; rfl)); (case hp => exact (Reps.one (show Kd.M (Kd.int .i64) _ _ _ a0_4 [.int .i64 a0_4] from rfl) (Reps.none _ _)))
          intro v550 w21 ho22 hb hg_ hnew_
          clear hg_ hnew_
          (first | rw [← Ny549.out] at ho22 | (simp only [Int.reduceToNat] at ho22; rw [← Ny549.out] at ho22))
          have n0_ := Aside0.mk (Kd.R_lower ho22 (below_size (by repeat (first | (with_reducible first | exact HB.out | apply below_alloc | apply pw_below_drewN | apply below_drew1 | refine below_set ?_ GE533.out) | exact HB.out))))
          have n1_ := Aside0.mk (blk_below (g := gb533) (o := .cells #[.bool a0_0, .bool a0_1, .int .i64 a0_2, .int .i64 a0_3, .int .i64 a0_4, .int .i64 a0_5] 72 (0, 0)) (by (with_reducible repeat (first | refine blk_drewN ?_ _ | refine blk_drew ?_ | refine blk_alloc ?_ _)); exact BK533.out) hb)
          have n2_ := Aside0.mk (below_step (by repeat (first | (with_reducible first | exact HB.out | apply below_alloc | apply pw_below_drewN | apply below_drew1 | refine below_set ?_ GE533.out) | exact HB.out)) hb)
          have z_HO539 := fun (h0_ : b 7 = true) => (show Kd.R (Kd.int .i64) 3 w21 w.heap.size (fun _ => True) v538 y537 from by first | exact (Kd.R_elder' (by (with_reducible repeat (first | apply Kd.R_alloc | apply Kd.R_drewN | apply Kd.R_drew)); exact (Q_HO539 h0_)) (Kd.R_base ho22) hb) | exact Kd.R_mono (Kd.R_elder' (by (with_reducible repeat (first | apply Kd.R_alloc | apply Kd.R_drewN | apply Kd.R_drew)); exact (Q_HO539 h0_)) (Kd.R_base ho22) hb) (fun _ h_ => by first | trivial | exact h_ | exact h_.1))
          have z_HO543 := fun (h0_ : b 15 = true) => (show Kd.R (Kd.int .i64) 3 w21 w.heap.size (fun _ => True) v542 y541 from by first | exact (Kd.R_elder' (by (with_reducible repeat (first | apply Kd.R_alloc | apply Kd.R_drewN | apply Kd.R_drew)); exact (Q_HO543 h0_)) (Kd.R_base ho22) hb) | exact Kd.R_mono (Kd.R_elder' (by (with_reducible repeat (first | apply Kd.R_alloc | apply Kd.R_drewN | apply Kd.R_drew)); exact (Q_HO543 h0_)) (Kd.R_base ho22) hb) (fun _ h_ => by first | trivial | exact h_ | exact h_.1))
          have z_HO547 := fun (h0_ : b 20 = true) => (show Kd.R (Kd.int .i64) 3 w21 w.heap.size (fun _ => True) v546 y545 from by first | exact (Kd.R_elder' (by (with_reducible repeat (first | apply Kd.R_alloc | apply Kd.R_drewN | apply Kd.R_drew)); exact (Q_HO547 h0_)) (Kd.R_base ho22) hb) | exact Kd.R_mono (Kd.R_elder' (by (with_reducible repeat (first | apply Kd.R_alloc | apply Kd.R_drewN | apply Kd.R_drew)); exact (Q_HO547 h0_)) (Kd.R_base ho22) hb) (fun _ h_ => by first | trivial | exact h_ | exact h_.1))
          have z_HO555 := fun (h0_ : b 30 = true) => (show Kd.R (Kd.int .i64) 3 w21 w.heap.size (fun _ => True) v554 y553 from by first | exact (Kd.R_elder' (by (with_reducible repeat (first | apply Kd.R_alloc | apply Kd.R_drewN | apply Kd.R_drew)); exact (Q_HO555 h0_)) (Kd.R_base ho22) hb) | exact Kd.R_mono (Kd.R_elder' (by (with_reducible repeat (first | apply Kd.R_alloc | apply Kd.R_drewN | apply Kd.R_drew)); exact (Q_HO555 h0_)) (Kd.R_base ho22) hb) (fun _ h_ => by first | trivial | exact h_ | exact h_.1))
          clear BK533
          clear HB
          have HO551 := n0_
          have BK533 := n1_
          have HB := n2_
          clear n0_ n1_ n2_
          clear hb ho22
          refine hK.out _ _ ⟨v538, v542, v546, v550, v554, (by rw [ha.out]; exact putSel_upk 19 hb_ rfl rfl rfl), (by (with_reducible repeat (first | refine blk_drewN ?_ _ | refine blk_drew ?_ | refine blk_alloc ?_ _)); exact BK533.out), (by repeat (first | (with_reducible first | exact HB.out | apply below_alloc | apply pw_below_drewN | apply below_drew1 | refine below_set ?_ GE533.out) | exact HB.out)), z_HO539, z_HO543, z_HO547, fun _ => (by (with_reducible repeat (first | apply Kd.R_alloc | apply Kd.R_drewN | apply Kd.R_drew)); exact HO551.out), z_HO555⟩
         refine steps_cons ?_ ?_
         ·rintro b a w' ⟨v538, v542, v546, v550, v554, ha, Q_BK533, Q_HB, Q_HO539, Q_HO543, Q_HO547, Q_HO551, Q_HO555⟩ hb_ hon hoff
          refine ⟨_, rfl, fun K hK => ?_⟩
          have e33 : a.tmps[33]? = some (v550) := by rw [ha]; exact putSel_on (e := (25, 33, v550)) 19 rfl rfl (hon 25 (by kernel_rfl)) rfl
          replace ha := Aside0.mk ha
          have BK533 := Aside0.mk Q_BK533
          have HB := Aside0.mk Q_HB
          have HO539 := Aside0.mk (Q_HO539 (hon 7 (by kernel_rfl)))
          have HO543 := Aside0.mk (Q_HO543 (hon 15 (by kernel_rfl)))
          have HO547 := Aside0.mk (Q_HO547 (hon 20 (by kernel_rfl)))
          have HO551 := Aside0.mk (Q_HO551 (hon 25 (by kernel_rfl)))
          obtain ⟨Ao36, co36, eo36⟩ := Kd.R_slice HO551.out
          (first | subst eo36 | (injection eo36 with f1_ f2_ f3_; have f4_ := f1_.symm; have f5_ := f3_.symm; clear f1_ f2_ f3_; subst f4_; subst f5_))
          refine goes_ Tryd.func95 (by kernel_rfl) rfl #[.int .i64 9, .slice Ao36 y549.length co36] (by rfl) rfl rfl (by first | (simp only [List.map_toArray, List.map_cons, List.map_nil, Act.eval, Array.getD_eq_getD_getElem?, Option.getD_some, e33]; done) | (simp only [List.map_toArray, List.map_cons, List.map_nil, Act.eval, Array.getD_eq_getD_getElem?, Option.getD_some, e33]; rfl)) ?_
          with_reducible refine (xid_field.calls k 9 _ _ y549 t552 _ ?side1 ?side2 A11.out).mono ?_
          (case side1 => repeat (first | exact (Kd.R_reads' HO551.out).2.2 | (with_reducible refine Kd.C_alloc ?_ _) | (with_reducible refine Kd.C_drewN ?_ _) | (with_reducible refine Kd.C_drew ?_)))
          (case side2 => exact (Kd.R_reads' HO551.out).2.1)
          rintro e w37 ⟨rfl, hb⟩
          refine ⟨_, rfl, ?_⟩
          have n0_ := Aside0.mk (Kd.R_below (by (with_reducible repeat (first | apply Kd.R_alloc | apply Kd.R_drewN | apply Kd.R_drew)); exact HO539.out) hb)
          have n1_ := Aside0.mk (Kd.R_below (by (with_reducible repeat (first | apply Kd.R_alloc | apply Kd.R_drewN | apply Kd.R_drew)); exact HO543.out) hb)
          have n2_ := Aside0.mk (Kd.R_below (by (with_reducible repeat (first | apply Kd.R_alloc | apply Kd.R_drewN | apply Kd.R_drew)); exact HO547.out) hb)
          have n3_ := Aside0.mk (Kd.R_below (by (with_reducible repeat (first | apply Kd.R_alloc | apply Kd.R_drewN | apply Kd.R_drew)); exact HO551.out) hb)
          have n4_ := Aside0.mk (blk_below (g := gb533) (o := .cells #[.bool a0_0, .bool a0_1, .int .i64 a0_2, .int .i64 a0_3, .int .i64 a0_4, .int .i64 a0_5] 72 (0, 0)) (by (with_reducible repeat (first | refine blk_drewN ?_ _ | refine blk_drew ?_ | refine blk_alloc ?_ _)); exact BK533.out) hb)
          have n5_ := Aside0.mk (below_step (by repeat (first | (with_reducible first | exact HB.out | apply below_alloc | apply pw_below_drewN | apply below_drew1 | refine below_set ?_ GE533.out) | exact HB.out)) hb)
          have z_HO555 := fun (h0_ : b 30 = true) => (show Kd.R (Kd.int .i64) 3 w37 w.heap.size (fun _ => True) v554 y553 from by first | exact (Kd.R_below (by (with_reducible repeat (first | apply Kd.R_alloc | apply Kd.R_drewN | apply Kd.R_drew)); exact (Q_HO555 h0_)) hb) | exact Kd.R_mono (Kd.R_below (by (with_reducible repeat (first | apply Kd.R_alloc | apply Kd.R_drewN | apply Kd.R_drew)); exact (Q_HO555 h0_)) hb) (fun _ h_ => by first | trivial | exact h_ | exact h_.1))
          clear HO539
          clear HO543
          clear HO547
          clear HO551
          clear BK533
          clear HB
          have HO539 := n0_
          have HO543 := n1_
          have HO547 := n2_
          have HO551 := n3_
          have BK533 := n4_
          have HB := n5_
          clear n0_ n1_ n2_ n3_ n4_ n5_
          (try clear hb)
          (try clear hb2)
          (try clear hk)
          (try clear hi)
          refine hK.out _ _ ⟨v538, v542, v546, .slice Ao36 y549.length co36, v554, (by rw [ha.out]; exact putSel_upk 20 hb_ rfl rfl rfl), (by (with_reducible repeat (first | refine blk_drewN ?_ _ | refine blk_drew ?_ | refine blk_alloc ?_ _)); exact BK533.out), (by repeat (first | (with_reducible first | exact HB.out | apply below_alloc | apply pw_below_drewN | apply below_drew1 | refine below_set ?_ GE533.out) | exact HB.out)), fun _ => (by (with_reducible repeat (first | apply Kd.R_alloc | apply Kd.R_drewN | apply Kd.R_drew)); exact HO539.out), fun _ => (by (with_reducible repeat (first | apply Kd.R_alloc | apply Kd.R_drewN | apply Kd.R_drew)); exact HO543.out), fun _ => (by (with_reducible repeat (first | apply Kd.R_alloc | apply Kd.R_drewN | apply Kd.R_drew)); exact HO547.out), fun _ => (by (with_reducible repeat (first | apply Kd.R_alloc | apply Kd.R_drewN | apply Kd.R_drew)); exact HO551.out), z_HO555⟩
         refine steps_cons ?_ ?_
         ·rintro b a w' ⟨v538, v542, v546, v550, v554, ha, Q_BK533, Q_HB, Q_HO539, Q_HO543, Q_HO547, Q_HO551, Q_HO555⟩ hb_ hon hoff
          refine ⟨_, rfl, fun K hK => ?_⟩
          have e30 : a.tmps[30]? = some (.string ((t540 ++ t544) ++ t548)) := by rw [ha]; exact putSel_on (e := (22, 30, .string ((t540 ++ t544) ++ t548))) 17 rfl rfl (hon 22 (by kernel_rfl)) rfl
          have e34 : a.tmps[34]? = some (.string t552) := by rw [ha]; exact putSel_on (e := (26, 34, .string t552)) 20 rfl rfl (hon 26 (by kernel_rfl)) rfl
          replace ha := Aside0.mk ha
          have BK533 := Aside0.mk Q_BK533
          have HB := Aside0.mk Q_HB
          have HO539 := Aside0.mk (Q_HO539 (hon 7 (by kernel_rfl)))
          have HO543 := Aside0.mk (Q_HO543 (hon 15 (by kernel_rfl)))
          have HO547 := Aside0.mk (Q_HO547 (hon 20 (by kernel_rfl)))
          have HO551 := Aside0.mk (Q_HO551 (hon 25 (by kernel_rfl)))
          refine value_ (w1 := w') (v := .string (((t540 ++ t544) ++ t548) ++ t552)) (by rfl) rfl ?_ ?_
          ·go_simp
           (try simp only [i64_w])
           try rfl
           all_goals (try ((try simp only [ByteArray.size_append] at *); omega))
          refine hK.out _ _ ⟨v538, v542, v546, v550, v554, (by rw [ha.out]; exact putSel_upk 21 hb_ rfl rfl rfl), Q_BK533, Q_HB, Q_HO539, Q_HO543, Q_HO547, Q_HO551, Q_HO555⟩
         refine steps_cons ?_ ?_
         ·rintro b a w' ⟨v538, v542, v546, v550, v554, ha, Q_BK533, Q_HB, Q_HO539, Q_HO543, Q_HO547, Q_HO551, Q_HO555⟩ hb_ hon hoff
          refine ⟨_, rfl, fun K hK => ?_⟩
          have e36 : a.tmps[36]? = some (.pointer (some ⟨gb533, 5, none⟩)) := by rw [ha]; exact (putSel_off rfl).trans rfl
          replace ha := Aside0.mk ha
          have BK533 := Aside0.mk Q_BK533
          have HB := Aside0.mk Q_HB
          have hc0_ : w'.cell? ⟨gb533, 0, none⟩ = some (.bool a0_0) := (blk_cell BK533.out 0).trans rfl
          have hc1_ : w'.cell? ⟨gb533, 1, none⟩ = some (.bool a0_1) := (blk_cell BK533.out 1).trans rfl
          have hc2_ : w'.cell? ⟨gb533, 2, none⟩ = some (.int .i64 a0_2) := (blk_cell BK533.out 2).trans rfl
          have hc3_ : w'.cell? ⟨gb533, 3, none⟩ = some (.int .i64 a0_3) := (blk_cell BK533.out 3).trans rfl
          have hc4_ : w'.cell? ⟨gb533, 4, none⟩ = some (.int .i64 a0_4) := (blk_cell BK533.out 4).trans rfl
          have hc5_ : w'.cell? ⟨gb533, 5, none⟩ = some (.int .i64 a0_5) := (blk_cell BK533.out 5).trans rfl
          refine value_ (w1 := w') (v := .int .i64 a0_5) (by rfl) rfl ?_ ?_
          ·go_simp
           (try simp only [i64_w])
           try rfl
           all_goals (try ((try simp only [ByteArray.size_append] at *); omega))
          refine hK.out _ _ ⟨v538, v542, v546, v550, v554, (by rw [ha.out]; exact putSel_upk 22 hb_ rfl rfl rfl), Q_BK533, Q_HB, Q_HO539, Q_HO543, Q_HO547, Q_HO551, fun h0_ => absurd ((hoff 30 (by kernel_rfl)).symm.trans h0_) (by decide)⟩
         refine steps_cons ?_ ?_
         ·rintro b a w' ⟨v538, v542, v546, v550, v554, ha, Q_BK533, Q_HB, Q_HO539, Q_HO543, Q_HO547, Q_HO551, Q_HO555⟩ hb_ hon hoff
          refine ⟨_, rfl, fun K hK => ?_⟩
          have e37 : a.tmps[37]? = some (.int .i64 a0_5) := by rw [ha]; exact putSel_on (e := (29, 37, .int .i64 a0_5)) 22 rfl rfl (hon 29 (by kernel_rfl)) rfl
          replace ha := Aside0.mk ha
          have BK533 := Aside0.mk Q_BK533
          have HB := Aside0.mk Q_HB
          refine Kd.R_lit_step (Kd.int .i64) _ 3 ?hg (N := 38) ?hd (xs := ([a0_5] : List Int)) (inner := [.int .i64 a0_5]) (ok := fun _ => True) (okp := fun _ => True) ?hr ?hp (fun _ hk => hk) trivial (Below.refl _ _) (Nat.le_refl _) (by simp) ?_; (case hd => rfl); (case hg => rfl); (case hr => first | (go_simp; done) | (go_simp; rfl)); (case hp => exact (Reps.one (show Kd.M (Kd.int .i64) _ _ _ a0_5 [.int .i64 a0_5] from rfl) (Reps.none _ _)))
          intro v554 w21 ho22 hb hg_ hnew_
          clear hg_ hnew_
          (first | rw [← Ny553.out] at ho22 | (simp only [Int.reduceToNat] at ho22; rw [← Ny553.out] at ho22))
          have n0_ := Aside0.mk (Kd.R_lower ho22 (below_size (by repeat (first | (with_reducible first | exact HB.out | apply below_alloc | apply pw_below_drewN | apply below_drew1 | refine below_set ?_ GE533.out) | exact HB.out))))
          have n1_ := Aside0.mk (blk_below (g := gb533) (o := .cells #[.bool a0_0, .bool a0_1, .int .i64 a0_2, .int .i64 a0_3, .int .i64 a0_4, .int .i64 a0_5] 72 (0, 0)) (by (with_reducible repeat (first | refine blk_drewN ?_ _ | refine blk_drew ?_ | refine blk_alloc ?_ _)); exact BK533.out) hb)
          have n2_ := Aside0.mk (below_step (by repeat (first | (with_reducible first | exact HB.out | apply below_alloc | apply pw_below_drewN | apply below_drew1 | refine below_set ?_ GE533.out) | exact HB.out)) hb)
          have z_HO539 := fun (h0_ : b 7 = true) => (show Kd.R (Kd.int .i64) 3 w21 w.heap.size (fun _ => True) v538 y537 from by first | exact (Kd.R_elder' (by (with_reducible repeat (first | apply Kd.R_alloc | apply Kd.R_drewN | apply Kd.R_drew)); exact (Q_HO539 h0_)) (Kd.R_base ho22) hb) | exact Kd.R_mono (Kd.R_elder' (by (with_reducible repeat (first | apply Kd.R_alloc | apply Kd.R_drewN | apply Kd.R_drew)); exact (Q_HO539 h0_)) (Kd.R_base ho22) hb) (fun _ h_ => by first | trivial | exact h_ | exact h_.1))
          have z_HO543 := fun (h0_ : b 15 = true) => (show Kd.R (Kd.int .i64) 3 w21 w.heap.size (fun _ => True) v542 y541 from by first | exact (Kd.R_elder' (by (with_reducible repeat (first | apply Kd.R_alloc | apply Kd.R_drewN | apply Kd.R_drew)); exact (Q_HO543 h0_)) (Kd.R_base ho22) hb) | exact Kd.R_mono (Kd.R_elder' (by (with_reducible repeat (first | apply Kd.R_alloc | apply Kd.R_drewN | apply Kd.R_drew)); exact (Q_HO543 h0_)) (Kd.R_base ho22) hb) (fun _ h_ => by first | trivial | exact h_ | exact h_.1))
          have z_HO547 := fun (h0_ : b 20 = true) => (show Kd.R (Kd.int .i64) 3 w21 w.heap.size (fun _ => True) v546 y545 from by first | exact (Kd.R_elder' (by (with_reducible repeat (first | apply Kd.R_alloc | apply Kd.R_drewN | apply Kd.R_drew)); exact (Q_HO547 h0_)) (Kd.R_base ho22) hb) | exact Kd.R_mono (Kd.R_elder' (by (with_reducible repeat (first | apply Kd.R_alloc | apply Kd.R_drewN | apply Kd.R_drew)); exact (Q_HO547 h0_)) (Kd.R_base ho22) hb) (fun _ h_ => by first | trivial | exact h_ | exact h_.1))
          have z_HO551 := fun (h0_ : b 25 = true) => (show Kd.R (Kd.int .i64) 3 w21 w.heap.size (fun _ => True) v550 y549 from by first | exact (Kd.R_elder' (by (with_reducible repeat (first | apply Kd.R_alloc | apply Kd.R_drewN | apply Kd.R_drew)); exact (Q_HO551 h0_)) (Kd.R_base ho22) hb) | exact Kd.R_mono (Kd.R_elder' (by (with_reducible repeat (first | apply Kd.R_alloc | apply Kd.R_drewN | apply Kd.R_drew)); exact (Q_HO551 h0_)) (Kd.R_base ho22) hb) (fun _ h_ => by first | trivial | exact h_ | exact h_.1))
          clear BK533
          clear HB
          have HO555 := n0_
          have BK533 := n1_
          have HB := n2_
          clear n0_ n1_ n2_
          clear hb ho22
          refine hK.out _ _ ⟨v538, v542, v546, v550, v554, (by rw [ha.out]; exact putSel_upk 23 hb_ rfl rfl rfl), (by (with_reducible repeat (first | refine blk_drewN ?_ _ | refine blk_drew ?_ | refine blk_alloc ?_ _)); exact BK533.out), (by repeat (first | (with_reducible first | exact HB.out | apply below_alloc | apply pw_below_drewN | apply below_drew1 | refine below_set ?_ GE533.out) | exact HB.out)), z_HO539, z_HO543, z_HO547, z_HO551, fun _ => (by (with_reducible repeat (first | apply Kd.R_alloc | apply Kd.R_drewN | apply Kd.R_drew)); exact HO555.out)⟩
         refine steps_cons ?_ ?_
         ·rintro b a w' ⟨v538, v542, v546, v550, v554, ha, Q_BK533, Q_HB, Q_HO539, Q_HO543, Q_HO547, Q_HO551, Q_HO555⟩ hb_ hon hoff
          refine ⟨_, rfl, fun K hK => ?_⟩
          have e38 : a.tmps[38]? = some (v554) := by rw [ha]; exact putSel_on (e := (30, 38, v554)) 23 rfl rfl (hon 30 (by kernel_rfl)) rfl
          replace ha := Aside0.mk ha
          have BK533 := Aside0.mk Q_BK533
          have HB := Aside0.mk Q_HB
          have HO539 := Aside0.mk (Q_HO539 (hon 7 (by kernel_rfl)))
          have HO543 := Aside0.mk (Q_HO543 (hon 15 (by kernel_rfl)))
          have HO547 := Aside0.mk (Q_HO547 (hon 20 (by kernel_rfl)))
          have HO551 := Aside0.mk (Q_HO551 (hon 25 (by kernel_rfl)))
          have HO555 := Aside0.mk (Q_HO555 (hon 30 (by kernel_rfl)))
          obtain ⟨Ao40, co40, eo40⟩ := Kd.R_slice HO555.out
          (first | subst eo40 | (injection eo40 with f1_ f2_ f3_; have f4_ := f1_.symm; have f5_ := f3_.symm; clear f1_ f2_ f3_; subst f4_; subst f5_))
          refine goes_ Tryd.func95 (by kernel_rfl) rfl #[.int .i64 10, .slice Ao40 y553.length co40] (by rfl) rfl rfl (by first | (simp only [List.map_toArray, List.map_cons, List.map_nil, Act.eval, Array.getD_eq_getD_getElem?, Option.getD_some, e38]; done) | (simp only [List.map_toArray, List.map_cons, List.map_nil, Act.eval, Array.getD_eq_getD_getElem?, Option.getD_some, e38]; rfl)) ?_
          with_reducible refine (xid_field.calls k 10 _ _ y553 t556 _ ?side1 ?side2 A13.out).mono ?_
          (case side1 => repeat (first | exact (Kd.R_reads' HO555.out).2.2 | (with_reducible refine Kd.C_alloc ?_ _) | (with_reducible refine Kd.C_drewN ?_ _) | (with_reducible refine Kd.C_drew ?_)))
          (case side2 => exact (Kd.R_reads' HO555.out).2.1)
          rintro e w41 ⟨rfl, hb⟩
          refine ⟨_, rfl, ?_⟩
          have n0_ := Aside0.mk (Kd.R_below (by (with_reducible repeat (first | apply Kd.R_alloc | apply Kd.R_drewN | apply Kd.R_drew)); exact HO539.out) hb)
          have n1_ := Aside0.mk (Kd.R_below (by (with_reducible repeat (first | apply Kd.R_alloc | apply Kd.R_drewN | apply Kd.R_drew)); exact HO543.out) hb)
          have n2_ := Aside0.mk (Kd.R_below (by (with_reducible repeat (first | apply Kd.R_alloc | apply Kd.R_drewN | apply Kd.R_drew)); exact HO547.out) hb)
          have n3_ := Aside0.mk (Kd.R_below (by (with_reducible repeat (first | apply Kd.R_alloc | apply Kd.R_drewN | apply Kd.R_drew)); exact HO551.out) hb)
          have n4_ := Aside0.mk (Kd.R_below (by (with_reducible repeat (first | apply Kd.R_alloc | apply Kd.R_drewN | apply Kd.R_drew)); exact HO555.out) hb)
          have n5_ := Aside0.mk (blk_below (g := gb533) (o := .cells #[.bool a0_0, .bool a0_1, .int .i64 a0_2, .int .i64 a0_3, .int .i64 a0_4, .int .i64 a0_5] 72 (0, 0)) (by (with_reducible repeat (first | refine blk_drewN ?_ _ | refine blk_drew ?_ | refine blk_alloc ?_ _)); exact BK533.out) hb)
          have n6_ := Aside0.mk (below_step (by repeat (first | (with_reducible first | exact HB.out | apply below_alloc | apply pw_below_drewN | apply below_drew1 | refine below_set ?_ GE533.out) | exact HB.out)) hb)
          clear HO539
          clear HO543
          clear HO547
          clear HO551
          clear HO555
          clear BK533
          clear HB
          have HO539 := n0_
          have HO543 := n1_
          have HO547 := n2_
          have HO551 := n3_
          have HO555 := n4_
          have BK533 := n5_
          have HB := n6_
          clear n0_ n1_ n2_ n3_ n4_ n5_ n6_
          (try clear hb)
          (try clear hb2)
          (try clear hk)
          (try clear hi)
          refine hK.out _ _ ⟨v538, v542, v546, v550, .slice Ao40 y553.length co40, (by rw [ha.out]; exact putSel_upk 24 hb_ rfl rfl rfl), (by (with_reducible repeat (first | refine blk_drewN ?_ _ | refine blk_drew ?_ | refine blk_alloc ?_ _)); exact BK533.out), (by repeat (first | (with_reducible first | exact HB.out | apply below_alloc | apply pw_below_drewN | apply below_drew1 | refine below_set ?_ GE533.out) | exact HB.out)), fun _ => (by (with_reducible repeat (first | apply Kd.R_alloc | apply Kd.R_drewN | apply Kd.R_drew)); exact HO539.out), fun _ => (by (with_reducible repeat (first | apply Kd.R_alloc | apply Kd.R_drewN | apply Kd.R_drew)); exact HO543.out), fun _ => (by (with_reducible repeat (first | apply Kd.R_alloc | apply Kd.R_drewN | apply Kd.R_drew)); exact HO547.out), fun _ => (by (with_reducible repeat (first | apply Kd.R_alloc | apply Kd.R_drewN | apply Kd.R_drew)); exact HO551.out), fun _ => (by (with_reducible repeat (first | apply Kd.R_alloc | apply Kd.R_drewN | apply Kd.R_drew)); exact HO555.out)⟩
         refine steps_cons ?_ ?_
         ·rintro b a w' ⟨v538, v542, v546, v550, v554, ha, Q_BK533, Q_HB, Q_HO539, Q_HO543, Q_HO547, Q_HO551, Q_HO555⟩ hb_ hon hoff
          refine ⟨_, rfl, fun K hK => ?_⟩
          have e35 : a.tmps[35]? = some (.string (((t540 ++ t544) ++ t548) ++ t552)) := by rw [ha]; exact putSel_on (e := (27, 35, .string (((t540 ++ t544) ++ t548) ++ t552))) 21 rfl rfl (hon 27 (by kernel_rfl)) rfl
          have e39 : a.tmps[39]? = some (.string t556) := by rw [ha]; exact putSel_on (e := (31, 39, .string t556)) 24 rfl rfl (hon 31 (by kernel_rfl)) rfl
          replace ha := Aside0.mk ha
          have BK533 := Aside0.mk Q_BK533
          have HB := Aside0.mk Q_HB
          have HO539 := Aside0.mk (Q_HO539 (hon 7 (by kernel_rfl)))
          have HO543 := Aside0.mk (Q_HO543 (hon 15 (by kernel_rfl)))
          have HO547 := Aside0.mk (Q_HO547 (hon 20 (by kernel_rfl)))
          have HO551 := Aside0.mk (Q_HO551 (hon 25 (by kernel_rfl)))
          have HO555 := Aside0.mk (Q_HO555 (hon 30 (by kernel_rfl)))
          refine value_ (w1 := w') (v := .string ((((t540 ++ t544) ++ t548) ++ t552) ++ t556)) (by rfl) rfl ?_ ?_
          ·go_simp
           (try simp only [i64_w])
           try rfl
           all_goals (try ((try simp only [ByteArray.size_append] at *); omega))
          refine hK.out _ _ ⟨v538, v542, v546, v550, v554, (by rw [ha.out]; exact putSel_upk 25 hb_ rfl rfl rfl), Q_BK533, Q_HB, Q_HO539, Q_HO543, Q_HO547, Q_HO551, Q_HO555⟩
         refine steps_cons ?_ ?_
         ·rintro b a w' ⟨v538, v542, v546, v550, v554, ha, Q_BK533, Q_HB, Q_HO539, Q_HO543, Q_HO547, Q_HO551, Q_HO555⟩ hb_ hon hoff
          refine ⟨_, rfl, fun K hK => ?_⟩
          have e40 : a.tmps[40]? = some (.string ((((t540 ++ t544) ++ t548) ++ t552) ++ t556)) := by rw [ha]; exact putSel_on (e := (32, 40, .string ((((t540 ++ t544) ++ t548) ++ t552) ++ t556))) 25 rfl rfl (hon 32 (by kernel_rfl)) rfl
          replace ha := Aside0.mk ha
          have BK533 := Aside0.mk Q_BK533
          have HB := Aside0.mk Q_HB
          have HO539 := Aside0.mk (Q_HO539 (hon 7 (by kernel_rfl)))
          have HO543 := Aside0.mk (Q_HO543 (hon 15 (by kernel_rfl)))
          have HO547 := Aside0.mk (Q_HO547 (hon 20 (by kernel_rfl)))
          have HO551 := Aside0.mk (Q_HO551 (hon 25 (by kernel_rfl)))
          have HO555 := Aside0.mk (Q_HO555 (hon 30 (by kernel_rfl)))
          refine value_ (w1 := w') (v := .string ((((t540 ++ t544) ++ t548) ++ t552) ++ t556)) (by rfl) rfl ?_ ?_
          ·go_simp
           (try simp only [i64_w])
           try rfl
           all_goals (try ((try simp only [ByteArray.size_append] at *); omega))
          refine hK.out _ _ ⟨v538, v542, v546, v550, v554, (by rw [ha.out]; exact putSel_upk 26 hb_ rfl rfl rfl), Q_BK533, Q_HB, Q_HO539, Q_HO543, Q_HO547, Q_HO551, Q_HO555⟩
         exact steps_nil
        rintro b a w41 hall ⟨v538, v542, v546, v550, v554, ha, Q_BK533, Q_HB, Q_HO539, Q_HO543, Q_HO547, Q_HO551, Q_HO555⟩
        clear BK533 HB
        have hb1_ := hall 1 (by kernel_rfl)
        have hb2_ := hall 2 (by kernel_rfl)
        have hb4_ := hall 4 (by kernel_rfl)
        have hb5_ := hall 5 (by kernel_rfl)
        have hb6_ := hall 6 (by kernel_rfl)
        have hb7_ := hall 7 (by kernel_rfl)
        have hb8_ := hall 8 (by kernel_rfl)
        have hb10_ := hall 10 (by kernel_rfl)
        have hb11_ := hall 11 (by kernel_rfl)
        have hb13_ := hall 13 (by kernel_rfl)
        have hb14_ := hall 14 (by kernel_rfl)
        have hb15_ := hall 15 (by kernel_rfl)
        have hb16_ := hall 16 (by kernel_rfl)
        have hb17_ := hall 17 (by kernel_rfl)
        have hb19_ := hall 19 (by kernel_rfl)
        have hb20_ := hall 20 (by kernel_rfl)
        have hb21_ := hall 21 (by kernel_rfl)
        have hb22_ := hall 22 (by kernel_rfl)
        have hb24_ := hall 24 (by kernel_rfl)
        have hb25_ := hall 25 (by kernel_rfl)
        have hb26_ := hall 26 (by kernel_rfl)
        have hb27_ := hall 27 (by kernel_rfl)
        have hb29_ := hall 29 (by kernel_rfl)
        have hb30_ := hall 30 (by kernel_rfl)
        have hb31_ := hall 31 (by kernel_rfl)
        have hb32_ := hall 32 (by kernel_rfl)
        have hb33_ := hall 33 (by kernel_rfl)
        subst ha
        simp only [putSel, hb1_, hb2_, hb4_, hb5_, hb6_, hb7_, hb8_, hb10_, hb11_, hb13_, hb14_, hb15_, hb16_, hb17_, hb19_, hb20_, hb21_, hb22_, hb24_, hb25_, hb26_, hb27_, hb29_, hb30_, hb31_, hb32_, hb33_, if_true, Act.put, List.setIfInBounds_toArray, List.set_cons_zero, List.set_cons_succ]
        have BK533 := Aside0.mk Q_BK533
        clear Q_BK533
        have HB := Aside0.mk Q_HB
        clear Q_HB
        have HO539 := Aside0.mk (Q_HO539 hb7_)
        clear Q_HO539
        have HO543 := Aside0.mk (Q_HO543 hb15_)
        clear Q_HO543
        have HO547 := Aside0.mk (Q_HO547 hb20_)
        clear Q_HO547
        have HO551 := Aside0.mk (Q_HO551 hb25_)
        clear Q_HO551
        have HO555 := Aside0.mk (Q_HO555 hb30_)
        clear Q_HO555
        clear hall hb1_ hb2_ hb4_ hb5_ hb6_ hb7_ hb8_ hb10_ hb11_ hb13_ hb14_ hb15_ hb16_ hb17_ hb19_ hb20_ hb21_ hb22_ hb24_ hb25_ hb26_ hb27_ hb29_ hb30_ hb31_ hb32_ hb33_
        try go_wp2_with (first | ((with_reducible refine gate_dst (N := 44) rfl ?_); refine Kd.R_lit (Kd.int .u8) _ 5 ?hg (N := 44) ?hd (xs := ([0, ((((((t540 ++ t544) ++ t548) ++ t552) ++ t556).size : Int)) % 256] : List Int)) (inner := [.int .u8 0, .int .u8 (((((((t540 ++ t544) ++ t548) ++ t552) ++ t556).size : Int)) % 256)]) (ok := fun _ => True) (okp := fun _ => True) ?hr ?hp (fun _ hk => hk) trivial (Below.refl _ _) (Nat.le_refl _) (by simp) ?_; (case hd => rfl); (case hg => rfl); (case hr => first | (go_simp; done) | (go_simp; rfl)); (case hp => exact (Reps.one (show Kd.M (Kd.int .u8) _ _ _ 0 [.int .u8 0] from rfl) (Reps.one (show Kd.M (Kd.int .u8) _ _ _ (((((((t540 ++ t544) ++ t548) ++ t552) ++ t556).size : Int)) % 256) [.int .u8 (((((((t540 ++ t544) ++ t548) ++ t552) ++ t556).size : Int)) % 256)] from rfl) (Reps.none _ _)))); intro v558 w42 ho43 hb hg_ hnew_; clear hg_ hnew_; (first | rw [← Ny557.out] at ho43 | (simp only [Int.reduceToNat] at ho43; rw [← Ny557.out] at ho43)); have n0_ := Aside0.mk (Kd.R_below (by (with_reducible repeat (first | apply Kd.R_alloc | apply Kd.R_drewN | apply Kd.R_drew)); exact HO539.out) hb); have n1_ := Aside0.mk (Kd.R_below (by (with_reducible repeat (first | apply Kd.R_alloc | apply Kd.R_drewN | apply Kd.R_drew)); exact HO543.out) hb); have n2_ := Aside0.mk (Kd.R_below (by (with_reducible repeat (first | apply Kd.R_alloc | apply Kd.R_drewN | apply Kd.R_drew)); exact HO547.out) hb); have n3_ := Aside0.mk (Kd.R_below (by (with_reducible repeat (first | apply Kd.R_alloc | apply Kd.R_drewN | apply Kd.R_drew)); exact HO551.out) hb); have n4_ := Aside0.mk (Kd.R_below (by (with_reducible repeat (first | apply Kd.R_alloc | apply Kd.R_drewN | apply Kd.R_drew)); exact HO555.out) hb); have n5_ := Aside0.mk (Kd.R_lower ho43 (below_size (by repeat (first | (with_reducible first | exact HB.out | apply below_alloc | apply pw_below_drewN | apply below_drew1 | refine below_set ?_ GE533.out) | exact HB.out)))); have n6_ := Aside0.mk (blk_below (g := gb533) (o := .cells #[.bool a0_0, .bool a0_1, .int .i64 a0_2, .int .i64 a0_3, .int .i64 a0_4, .int .i64 a0_5] 72 (0, 0)) (by (with_reducible repeat (first | refine blk_drewN ?_ _ | refine blk_drew ?_ | refine blk_alloc ?_ _)); exact BK533.out) hb); have n7_ := Aside0.mk (below_step (by repeat (first | (with_reducible first | exact HB.out | apply below_alloc | apply pw_below_drewN | apply below_drew1 | refine below_set ?_ GE533.out) | exact HB.out)) hb); clear HO539; clear HO543; clear HO547; clear HO551; clear HO555; clear BK533; clear HB; have HO539 := n0_; have HO543 := n1_; have HO547 := n2_; have HO551 := n3_; have HO555 := n4_; have HO559 := n5_; have BK533 := n6_; have HB := n7_; clear n0_ n1_ n2_ n3_ n4_ n5_ n6_ n7_; clear hb ho43; have hcv44 := own_string (P := Tryd.prog) Tryd.underlying104 Tryd.underlying5 Tryd.underlying9 (Kd.own_of_R HO559.out)))
        go_ret2
        exact ⟨by first | rfl | (simp [errW_none, errW_some] <;> rfl) | (simp [*, errW_none, errW_some] <;> rfl), by repeat (first | (with_reducible first | exact HB.out | apply below_alloc | apply pw_below_drewN | apply below_drew1 | refine below_set ?_ GE533.out) | exact HB.out)⟩
       ·rw [if_neg c16] at H
        exact absurd H (by simp)
      ·rw [if_neg c15] at H
       exact absurd H (by simp)
     ·rw [if_neg c14] at H
      exact absurd H (by simp)
    ·rw [if_neg c12] at H
     exact absurd H (by simp)
   ·rw [if_neg c10] at H
    exact absurd H (by simp)
  ·rw [if_neg c8] at H
   exact absurd H (by simp)
 ·replace c3 := Bool.eq_false_iff.mpr c3
  subst c3
  have H1 : (some ((⟨#[]⟩ : ByteArray), 1)) = some (r1, r2) := by rw [if_neg (show ¬ (false = true) by decide)] at H; exact H
  clear H
  have H := H1
  clear H1
  simp only [Option.some.injEq, Prod.mk.injEq] at H
  obtain ⟨rfl, rfl⟩ := H
  go_enter Tryd.func74, Tryd.ntmps74
  go_wp2_with (first | ((with_reducible refine gate_dst (N := 1) rfl ?_); refine box_event ?hg (N := 1) ?hd (cs := #[.bool a0_0, .bool a0_1, .int .i64 a0_2, .int .i64 a0_3, .int .i64 a0_4, .int .i64 a0_5]) (t := 72) ?hr ?_; (case hd => rfl); (case hg => rfl); (case hr => first | (go_simp; done) | (go_simp; rfl)); intro gb533 hg w45 hbox hb; have n0_ := Aside0.mk (below_step (by repeat (first | (with_reducible first | exact HB.out | apply below_alloc | apply pw_below_drewN | apply below_drew1) | exact HB.out)) hb); have n1_ := Aside0.mk (hbox); have n2_ := Aside0.mk ((by rw [hg]; exact (below_size (by repeat (first | (with_reducible first | exact HB.out | apply below_alloc | apply pw_below_drewN | apply below_drew1) | exact HB.out))) : w.heap.size ≤ gb533)); have n3_ := Aside0.mk ((by rw [hg]; exact (below_size (by repeat (first | (with_reducible first | exact HB.out | apply below_alloc | apply pw_below_drewN | apply below_drew1) | exact HB.out))) : w.heap.size ≤ gb533)); clear HB; have HB := n0_; have BK533 := n1_; have GW533 := n2_; have GE533 := n3_; clear n0_ n1_ n2_ n3_; clear hb hbox hg; have hcz46_0 : w45.cell? ⟨gb533, 0, none⟩ = some (.bool a0_0) := (blk_cell BK533.out 0).trans rfl; have hcz46_1 : w45.cell? ⟨gb533, 1, none⟩ = some (.bool a0_1) := (blk_cell BK533.out 1).trans rfl; have hcz46_2 : w45.cell? ⟨gb533, 2, none⟩ = some (.int .i64 a0_2) := (blk_cell BK533.out 2).trans rfl; have hcz46_3 : w45.cell? ⟨gb533, 3, none⟩ = some (.int .i64 a0_3) := (blk_cell BK533.out 3).trans rfl; have hcz46_4 : w45.cell? ⟨gb533, 4, none⟩ = some (.int .i64 a0_4) := (blk_cell BK533.out 4).trans rfl; have hcz46_5 : w45.cell? ⟨gb533, 5, none⟩ = some (.int .i64 a0_5) := (blk_cell BK533.out 5).trans rfl; have hfz46_0 := blk_frozen BK533.out 0; have hfz46_1 := blk_frozen BK533.out 1; have hfz46_2 := blk_frozen BK533.out 2; have hfz46_3 := blk_frozen BK533.out 3; have hfz46_4 := blk_frozen BK533.out 4; have hfz46_5 := blk_frozen BK533.out 5) | ((with_reducible refine gate_callee (f := 51) rfl ?_); refine goesL_ (some 6) rfl rfl Tryd.func51 (by kernel_rfl) rfl #[.agg #[.bool a0_0, .bool a0_1, .int .i64 a0_2, .int .i64 a0_3, .int .i64 a0_4, .int .i64 a0_5]] rfl (by (try simp only [List.map_toArray, List.map_cons, List.map_nil]); first | done | rfl | (simp only [List.length_drop, List.length_take]; rfl)) ?_; (with_reducible refine (xid_Right.calls a0_0 a0_1 a0_2 a0_3 a0_4 a0_5 false _ A2.out).mono ?_); rintro e w47 ⟨rfl, hb⟩; refine ⟨_, rfl, ?_⟩; have n0_ := Aside0.mk (blk_below (g := gb533) (o := .cells #[.bool a0_0, .bool a0_1, .int .i64 a0_2, .int .i64 a0_3, .int .i64 a0_4, .int .i64 a0_5] 72 (0, 0)) (by (with_reducible repeat (first | refine blk_drewN ?_ _ | refine blk_drew ?_ | refine blk_alloc ?_ _)); exact BK533.out) hb); have n1_ := Aside0.mk (below_step (by repeat (first | (with_reducible first | exact HB.out | apply below_alloc | apply pw_below_drewN | apply below_drew1 | refine below_set ?_ GE533.out) | exact HB.out)) hb); clear BK533; clear HB; have BK533 := n0_; have HB := n1_; clear n0_ n1_; (try clear hb); (try clear hb2); (try clear hk); (try clear hi)))
  go_ret2
  exact ⟨by first | rfl | (simp [errW_none, errW_some] <;> rfl) | (simp [*, errW_none, errW_some] <;> rfl), by repeat (first | (with_reducible first | exact HB.out | apply below_alloc | apply pw_below_drewN | apply below_drew1 | refine below_set ?_ GE533.out) | exact HB.out)⟩

end Go.Proofs.YtpmieapgbdbabaaDoor.QAll
end

section
/- Walks, written by a program of this session (wip/pp): a Go function comes to what the Lean function beside it tells. -/
namespace Go.Proofs.YtpmieapgbdbabaaDoor.QAll
open Go.RowKit Go.Proofs.YtpmieapgbdbabaaDoorW.PrintWords Go.Proofs.YtpmieapgbdbabaaDoorW.PrintLast Go.Proofs.YtpmieapgbdbabaaDoorW.PrintMore
attribute [local go_sem] max2_int min2_int max_two min_two max_three min_three max_four min_four
set_option linter.unusedVariables false
set_option linter.unusedSimpArgs false

def xid_Usual.f  : Option (Bool × Bool × Int × Int × Int × Int) := some (false, false, 64, 4, 20, 5)
set_option maxHeartbeats 8000000 in
set_option maxRecDepth 100000 in
theorem xid_Usual.calls  (r1 : Bool) (r2 : Bool) (r3 : Int) (r4 : Int) (r5 : Int) (r6 : Int) (w : World) (h : xid_Usual.f  = some (r1, r2, r3, r4, r5, r6)) :
  Calls Tryd.prog 75 #[] w fun e w' => e = .returned (.agg #[.bool r1, .bool r2, .int .i64 r3, .int .i64 r4, .int .i64 r5, .int .i64 r6]) ∧ Below w.heap.size w w' := by
 have hu72 := Tryd.underlying72
 have HB := Aside0.mk (Below.refl w.heap.size w)
 have H : (some (false, false, 64, 4, 20, 5)) = some (r1, r2, r3, r4, r5, r6) := h
 clear h
 simp only [Option.some.injEq, Prod.mk.injEq] at H
 obtain ⟨rfl, rfl, rfl, rfl, rfl, rfl⟩ := H
 go_enter Tryd.func75, Tryd.ntmps75
 go_wp2_with (first | ((with_reducible refine gate_dst (N := 0) rfl ?_); refine box_event ?hg (N := 0) ?hd (cs := #[.bool false, .bool false, .int .i64 0, .int .i64 0, .int .i64 0, .int .i64 0]) (t := 72) ?hr ?_; (case hd => rfl); (case hg => rfl); (case hr => first | (go_simp; done) | (go_simp; rfl)); intro gb560 hg w1 hbox hb; have n0_ := Aside0.mk (below_step (by repeat (first | (with_reducible first | exact HB.out | apply below_alloc | apply pw_below_drewN | apply below_drew1) | exact HB.out)) hb); have n1_ := Aside0.mk (hbox); have n2_ := Aside0.mk ((by rw [hg]; exact (below_size (by repeat (first | (with_reducible first | exact HB.out | apply below_alloc | apply pw_below_drewN | apply below_drew1) | exact HB.out))) : w.heap.size ≤ gb560)); have n3_ := Aside0.mk ((by rw [hg]; exact (below_size (by repeat (first | (with_reducible first | exact HB.out | apply below_alloc | apply pw_below_drewN | apply below_drew1) | exact HB.out))) : w.heap.size ≤ gb560)); clear HB; have HB := n0_; have BK560 := n1_; have GW560 := n2_; have GE560 := n3_; clear n0_ n1_ n2_ n3_; clear hb hbox hg; have hcz2_0 : w1.cell? ⟨gb560, 0, none⟩ = some (.bool false) := (blk_cell BK560.out 0).trans rfl; have hcz2_1 : w1.cell? ⟨gb560, 1, none⟩ = some (.bool false) := (blk_cell BK560.out 1).trans rfl; have hcz2_2 : w1.cell? ⟨gb560, 2, none⟩ = some (.int .i64 0) := (blk_cell BK560.out 2).trans rfl; have hcz2_3 : w1.cell? ⟨gb560, 3, none⟩ = some (.int .i64 0) := (blk_cell BK560.out 3).trans rfl; have hcz2_4 : w1.cell? ⟨gb560, 4, none⟩ = some (.int .i64 0) := (blk_cell BK560.out 4).trans rfl; have hcz2_5 : w1.cell? ⟨gb560, 5, none⟩ = some (.int .i64 0) := (blk_cell BK560.out 5).trans rfl; have hfz2_0 := blk_frozen BK560.out 0; have hfz2_1 := blk_frozen BK560.out 1; have hfz2_2 := blk_frozen BK560.out 2; have hfz2_3 := blk_frozen BK560.out 3; have hfz2_4 := blk_frozen BK560.out 4; have hfz2_5 := blk_frozen BK560.out 5))
 refine bodyPost_ret (results_cell_row rfl _ _ gb560 72 #[.bool false, .bool false, .int .i64 64, .int .i64 4, .int .i64 20, .int .i64 5] (0, 0) _ rfl (by (with_reducible repeat (first | refine blk_drewN ?_ _ | refine blk_drew ?_ | refine blk_alloc ?_ _)); refine blk_put (cs := #[.bool false, .bool false, .int .i64 64, .int .i64 4, .int .i64 20, .int .i64 0]) ?_ 5 _ rfl; (with_reducible repeat (first | refine blk_drewN ?_ _ | refine blk_drew ?_ | refine blk_alloc ?_ _)); refine blk_put (cs := #[.bool false, .bool false, .int .i64 64, .int .i64 4, .int .i64 0, .int .i64 0]) ?_ 4 _ rfl; (with_reducible repeat (first | refine blk_drewN ?_ _ | refine blk_drew ?_ | refine blk_alloc ?_ _)); refine blk_put (cs := #[.bool false, .bool false, .int .i64 64, .int .i64 0, .int .i64 0, .int .i64 0]) ?_ 3 _ rfl; (with_reducible repeat (first | refine blk_drewN ?_ _ | refine blk_drew ?_ | refine blk_alloc ?_ _)); refine blk_put (cs := #[.bool false, .bool false, .int .i64 0, .int .i64 0, .int .i64 0, .int .i64 0]) ?_ 2 _ rfl; (with_reducible repeat (first | refine blk_drewN ?_ _ | refine blk_drew ?_ | refine blk_alloc ?_ _)); refine blk_put (cs := #[.bool false, .bool false, .int .i64 0, .int .i64 0, .int .i64 0, .int .i64 0]) ?_ 1 _ rfl; (with_reducible repeat (first | refine blk_drewN ?_ _ | refine blk_drew ?_ | refine blk_alloc ?_ _)); refine blk_put (cs := #[.bool false, .bool false, .int .i64 0, .int .i64 0, .int .i64 0, .int .i64 0]) ?_ 0 _ rfl; (with_reducible repeat (first | refine blk_drewN ?_ _ | refine blk_drew ?_ | refine blk_alloc ?_ _)); exact BK560.out) Tryd.underlying72 rfl (by kernel_rfl)) rfl ?_
 exact ⟨by first | rfl | (simp [errW_none, errW_some] <;> rfl) | (simp [*, errW_none, errW_some] <;> rfl), by repeat (first | (with_reducible first | exact HB.out | apply below_alloc | apply pw_below_drewN | apply below_drew1 | refine below_set ?_ GE560.out) | exact HB.out)⟩

end Go.Proofs.YtpmieapgbdbabaaDoor.QAll
end

section
/- Walks, written by a program of this session (wip/pp): a Go function comes to what the Lean function beside it tells. -/
namespace Go.Proofs.YtpmieapgbdbabaaDoor.QAll
open Go.RowKit Go.Proofs.YtpmieapgbdbabaaDoorW.PrintWords Go.Proofs.YtpmieapgbdbabaaDoorW.PrintLast Go.Proofs.YtpmieapgbdbabaaDoorW.PrintMore
attribute [local go_sem] max2_int min2_int max_two min_two max_three min_three max_four min_four
set_option linter.unusedVariables false
set_option linter.unusedSimpArgs false

def squelchlaw08_awake.f (k : Nat)  : Option (Bool) := (xid_Usual.f).bind fun bt561 => ((xid_Put.f k bt561.1 bt561.2.1 bt561.2.2.1 bt561.2.2.2.1 bt561.2.2.2.2.1 bt561.2.2.2.2.2).bind fun bt567 => (if bt567.2 = 0 then (if (bt567.1.size : Int) = 21 then (if 3 < (bt567.1.size : Int) then (if (bt bt567.1 3) = 17 then ((xid_Usual.f).bind fun bt569 => (some (bt569.2.2.2.1 == 4))) else (some false)) else (none)) else (some false)) else (some false)))
set_option maxHeartbeats 8000000 in
set_option maxRecDepth 100000 in
theorem squelchlaw08_awake.calls (k : Nat)  (r : Bool) (w : World) (h : squelchlaw08_awake.f k  = some r) :
  Calls Tryd.prog 46 #[] w fun e w' => e = .returned (.bool r) ∧ Below w.heap.size w w' := by
 have hu72 := Tryd.underlying72
 have hfd72_3 : ∀ (y0_ y1_ y2_ y3_ y4_ y5_ : Value) (W : World), (Instr.field 72 (.agg #[y0_, y1_, y2_, y3_, y4_, y5_]) 3).run Tryd.prog W = .ok (y3_) W := fun y0_ y1_ y2_ y3_ y4_ y5_ W => by kernel_rfl
 have HB := Aside0.mk (Below.refl w.heap.size w)
 have H : ((xid_Usual.f).bind fun bt561 => ((xid_Put.f k bt561.1 bt561.2.1 bt561.2.2.1 bt561.2.2.2.1 bt561.2.2.2.2.1 bt561.2.2.2.2.2).bind fun bt567 => (if bt567.2 = 0 then (if (bt567.1.size : Int) = 21 then (if 3 < (bt567.1.size : Int) then (if (bt bt567.1 3) = 17 then ((xid_Usual.f).bind fun bt569 => (some (bt569.2.2.2.1 == 4))) else (some false)) else (none)) else (some false)) else (some false)))) = some r := h
 clear h
 replace H := Option.bind_eq_some_iff.mp H
 obtain ⟨⟨t561, t562, t563, t564, t565, t566⟩, A10, H⟩ := H
 replace H : ((xid_Put.f k t561 t562 t563 t564 t565 t566).bind fun bt567 => (if bt567.2 = 0 then (if (bt567.1.size : Int) = 21 then (if 3 < (bt567.1.size : Int) then (if (bt bt567.1 3) = 17 then ((xid_Usual.f).bind fun bt569 => (some (bt569.2.2.2.1 == 4))) else (some false)) else (none)) else (some false)) else (some false))) = some r := H
 have A1 := Aside0.mk A10
 clear A10
 replace H := Option.bind_eq_some_iff.mp H
 obtain ⟨⟨t567, t568⟩, A20, H⟩ := H
 replace H : (if t568 = 0 then (if (t567.size : Int) = 21 then (if 3 < (t567.size : Int) then (if (bt t567 3) = 17 then ((xid_Usual.f).bind fun bt569 => (some (bt569.2.2.2.1 == 4))) else (some false)) else (none)) else (some false)) else (some false)) = some r := H
 have A2 := Aside0.mk A20
 clear A20
 by_cases c3 : t568 = 0
 ·rw [if_pos c3] at H
  have c3b0 : (t568 == 0) = true := beq_iff_eq.mpr c3
  have c3b1 : (t568 != 0) = false := bne_eq_false_iff_eq.mpr c3
  clear c3
  by_cases c4 : (t567.size : Int) = 21
  ·rw [if_pos c4] at H
   have c4b0 : ((t567.size : Int) == 21) = true := beq_iff_eq.mpr c4
   have c4b1 : ((t567.size : Int) != 21) = false := bne_eq_false_iff_eq.mpr c4
   clear c4
   by_cases c5 : 3 < (t567.size : Int)
   ·rw [if_pos c5] at H
    have c5b0 : decide (3 < (t567.size : Int)) = true := decide_eq_true c5
    have c5b1 : decide (3 < t567.size) = true := decide_eq_true (by omega)
    clear c5
    by_cases c7 : (bt t567 3) = 17
    ·rw [if_pos c7] at H
     have c7b0 : ((bt t567 3) == 17) = true := beq_iff_eq.mpr c7
     have c7b1 : ((bt t567 3) != 17) = false := bne_eq_false_iff_eq.mpr c7
     clear c7
     replace H := Option.bind_eq_some_iff.mp H
     obtain ⟨⟨t569, t570, t571, t572, t573, t574⟩, A80, H⟩ := H
     replace H : (some (t572 == 4)) = some r := H
     have A8 := Aside0.mk A80
     clear A80
     obtain rfl := Option.some.inj H
     go_enter Tryd.func46, Tryd.ntmps46
     go_wp2_with (first | ((with_reducible refine gate_callee (f := 75) rfl ?_); refine goesL_ (some 4) rfl rfl Tryd.func75 (by kernel_rfl) rfl #[] rfl (by (try simp only [List.map_toArray, List.map_cons, List.map_nil]); first | done | rfl | (simp only [List.length_drop, List.length_take]; rfl)) ?_; (with_reducible refine (xid_Usual.calls  t561 t562 t563 t564 t565 t566 _ A1.out).mono ?_); rintro e w9 ⟨rfl, hb⟩; refine ⟨_, rfl, ?_⟩; have n0_ := Aside0.mk (below_step (by repeat (first | (with_reducible first | exact HB.out | apply below_alloc | apply pw_below_drewN | apply below_drew1) | exact HB.out)) hb); clear HB; have HB := n0_; clear n0_; (try clear hb); (try clear hb2); (try clear hk); (try clear hi)) | ((with_reducible refine gate_callee (f := 74) rfl ?_); refine goesL_ (some 5) rfl rfl Tryd.func74 (by kernel_rfl) rfl #[.agg #[.bool t561, .bool t562, .int .i64 t563, .int .i64 t564, .int .i64 t565, .int .i64 t566]] rfl (by (try simp only [List.map_toArray, List.map_cons, List.map_nil]); first | done | rfl | (simp only [List.length_drop, List.length_take]; rfl)) ?_; (with_reducible refine (xid_Put.calls k t561 t562 t563 t564 t565 t566 t567 t568 _ A2.out).mono ?_); rintro e w10 ⟨rfl, hb⟩; refine ⟨_, rfl, ?_⟩; have n0_ := Aside0.mk (below_step (by repeat (first | (with_reducible first | exact HB.out | apply below_alloc | apply pw_below_drewN | apply below_drew1) | exact HB.out)) hb); clear HB; have HB := n0_; clear n0_; (try clear hb); (try clear hb2); (try clear hk); (try clear hi); have p6 : 0 ≤ (3 : Int) := (by omega); have q6 : 3 < t567.size := (by have : (3 : Int) < (t567.size : Int) := of_decide_eq_true (by first | (with_reducible assumption) | assumption); omega); have hx6 : ∀ h : 3 < t567.size, ((t567[3]'h).toNat : Int) = bt t567 3 := bt_at t567 3; clear p6; have qi6 : (3 < (t567.size : Int)) = True := eq_true (of_decide_eq_true (by first | (with_reducible assumption) | assumption)); replace q6 := eq_true q6) | (go_at_call 75; (with_reducible refine (xid_Usual.calls  t569 t570 t571 t572 t573 t574 _ A8.out).mono ?_); rintro e w11 ⟨rfl, hb⟩; have n0_ := Aside0.mk (below_step (by repeat (first | (with_reducible first | exact HB.out | apply below_alloc | apply pw_below_drewN | apply below_drew1) | exact HB.out)) hb); clear HB; have HB := n0_; clear n0_; (try clear hb); (try clear hb2); (try clear hk); (try clear hi)))
     go_ret
     exact ⟨by first | rfl | (simp [errW_none, errW_some] <;> rfl) | (simp [*, errW_none, errW_some] <;> rfl), by repeat (first | (with_reducible first | exact HB.out | apply below_alloc | apply pw_below_drewN | apply below_drew1) | exact HB.out)⟩
    ·rw [if_neg c7] at H
     have c7b0 : ((bt t567 3) == 17) = false := beq_eq_false_iff_ne.mpr c7
     have c7b1 : ((bt t567 3) != 17) = true := bne_iff_ne.mpr c7
     obtain rfl := Option.some.inj H
     go_enter Tryd.func46, Tryd.ntmps46
     go_wp2_with (first | ((with_reducible refine gate_callee (f := 75) rfl ?_); refine goesL_ (some 4) rfl rfl Tryd.func75 (by kernel_rfl) rfl #[] rfl (by (try simp only [List.map_toArray, List.map_cons, List.map_nil]); first | done | rfl | (simp only [List.length_drop, List.length_take]; rfl)) ?_; (with_reducible refine (xid_Usual.calls  t561 t562 t563 t564 t565 t566 _ A1.out).mono ?_); rintro e w12 ⟨rfl, hb⟩; refine ⟨_, rfl, ?_⟩; have n0_ := Aside0.mk (below_step (by repeat (first | (with_reducible first | exact HB.out | apply below_alloc | apply pw_below_drewN | apply below_drew1) | exact HB.out)) hb); clear HB; have HB := n0_; clear n0_; (try clear hb); (try clear hb2); (try clear hk); (try clear hi)) | ((with_reducible refine gate_callee (f := 74) rfl ?_); refine goesL_ (some 5) rfl rfl Tryd.func74 (by kernel_rfl) rfl #[.agg #[.bool t561, .bool t562, .int .i64 t563, .int .i64 t564, .int .i64 t565, .int .i64 t566]] rfl (by (try simp only [List.map_toArray, List.map_cons, List.map_nil]); first | done | rfl | (simp only [List.length_drop, List.length_take]; rfl)) ?_; (with_reducible refine (xid_Put.calls k t561 t562 t563 t564 t565 t566 t567 t568 _ A2.out).mono ?_); rintro e w13 ⟨rfl, hb⟩; refine ⟨_, rfl, ?_⟩; have n0_ := Aside0.mk (below_step (by repeat (first | (with_reducible first | exact HB.out | apply below_alloc | apply pw_below_drewN | apply below_drew1) | exact HB.out)) hb); clear HB; have HB := n0_; clear n0_; (try clear hb); (try clear hb2); (try clear hk); (try clear hi); have p6 : 0 ≤ (3 : Int) := (by omega); have q6 : 3 < t567.size := (by have : (3 : Int) < (t567.size : Int) := of_decide_eq_true (by first | (with_reducible assumption) | assumption); omega); have hx6 : ∀ h : 3 < t567.size, ((t567[3]'h).toNat : Int) = bt t567 3 := bt_at t567 3; clear p6; have qi6 : (3 < (t567.size : Int)) = True := eq_true (of_decide_eq_true (by first | (with_reducible assumption) | assumption)); replace q6 := eq_true q6))
     go_ret
     exact ⟨by first | rfl | (simp [errW_none, errW_some] <;> rfl) | (simp [*, errW_none, errW_some] <;> rfl), by repeat (first | (with_reducible first | exact HB.out | apply below_alloc | apply pw_below_drewN | apply below_drew1) | exact HB.out)⟩
   ·rw [if_neg c5] at H
    exact absurd H (by simp)
  ·rw [if_neg c4] at H
   have c4b0 : ((t567.size : Int) == 21) = false := beq_eq_false_iff_ne.mpr c4
   have c4b1 : ((t567.size : Int) != 21) = true := bne_iff_ne.mpr c4
   obtain rfl := Option.some.inj H
   go_enter Tryd.func46, Tryd.ntmps46
   go_wp2_with (first | ((with_reducible refine gate_callee (f := 75) rfl ?_); refine goesL_ (some 4) rfl rfl Tryd.func75 (by kernel_rfl) rfl #[] rfl (by (try simp only [List.map_toArray, List.map_cons, List.map_nil]); first | done | rfl | (simp only [List.length_drop, List.length_take]; rfl)) ?_; (with_reducible refine (xid_Usual.calls  t561 t562 t563 t564 t565 t566 _ A1.out).mono ?_); rintro e w14 ⟨rfl, hb⟩; refine ⟨_, rfl, ?_⟩; have n0_ := Aside0.mk (below_step (by repeat (first | (with_reducible first | exact HB.out | apply below_alloc | apply pw_below_drewN | apply below_drew1) | exact HB.out)) hb); clear HB; have HB := n0_; clear n0_; (try clear hb); (try clear hb2); (try clear hk); (try clear hi)) | ((with_reducible refine gate_callee (f := 74) rfl ?_); refine goesL_ (some 5) rfl rfl Tryd.func74 (by kernel_rfl) rfl #[.agg #[.bool t561, .bool t562, .int .i64 t563, .int .i64 t564, .int .i64 t565, .int .i64 t566]] rfl (by (try simp only [List.map_toArray, List.map_cons, List.map_nil]); first | done | rfl | (simp only [List.length_drop, List.length_take]; rfl)) ?_; (with_reducible refine (xid_Put.calls k t561 t562 t563 t564 t565 t566 t567 t568 _ A2.out).mono ?_); rintro e w15 ⟨rfl, hb⟩; refine ⟨_, rfl, ?_⟩; have n0_ := Aside0.mk (below_step (by repeat (first | (with_reducible first | exact HB.out | apply below_alloc | apply pw_below_drewN | apply below_drew1) | exact HB.out)) hb); clear HB; have HB := n0_; clear n0_; (try clear hb); (try clear hb2); (try clear hk); (try clear hi)))
   go_ret
   exact ⟨by first | rfl | (simp [errW_none, errW_some] <;> rfl) | (simp [*, errW_none, errW_some] <;> rfl), by repeat (first | (with_reducible first | exact HB.out | apply below_alloc | apply pw_below_drewN | apply below_drew1) | exact HB.out)⟩
 ·rw [if_neg c3] at H
  have c3b0 : (t568 == 0) = false := beq_eq_false_iff_ne.mpr c3
  have c3b1 : (t568 != 0) = true := bne_iff_ne.mpr c3
  obtain rfl := Option.some.inj H
  go_enter Tryd.func46, Tryd.ntmps46
  go_wp2_with (first | ((with_reducible refine gate_callee (f := 75) rfl ?_); refine goesL_ (some 4) rfl rfl Tryd.func75 (by kernel_rfl) rfl #[] rfl (by (try simp only [List.map_toArray, List.map_cons, List.map_nil]); first | done | rfl | (simp only [List.length_drop, List.length_take]; rfl)) ?_; (with_reducible refine (xid_Usual.calls  t561 t562 t563 t564 t565 t566 _ A1.out).mono ?_); rintro e w16 ⟨rfl, hb⟩; refine ⟨_, rfl, ?_⟩; have n0_ := Aside0.mk (below_step (by repeat (first | (with_reducible first | exact HB.out | apply below_alloc | apply pw_below_drewN | apply below_drew1) | exact HB.out)) hb); clear HB; have HB := n0_; clear n0_; (try clear hb); (try clear hb2); (try clear hk); (try clear hi)) | ((with_reducible refine gate_callee (f := 74) rfl ?_); refine goesL_ (some 5) rfl rfl Tryd.func74 (by kernel_rfl) rfl #[.agg #[.bool t561, .bool t562, .int .i64 t563, .int .i64 t564, .int .i64 t565, .int .i64 t566]] rfl (by (try simp only [List.map_toArray, List.map_cons, List.map_nil]); first | done | rfl | (simp only [List.length_drop, List.length_take]; rfl)) ?_; (with_reducible refine (xid_Put.calls k t561 t562 t563 t564 t565 t566 t567 t568 _ A2.out).mono ?_); rintro e w17 ⟨rfl, hb⟩; refine ⟨_, rfl, ?_⟩; have n0_ := Aside0.mk (below_step (by repeat (first | (with_reducible first | exact HB.out | apply below_alloc | apply pw_below_drewN | apply below_drew1) | exact HB.out)) hb); clear HB; have HB := n0_; clear n0_; (try clear hb); (try clear hb2); (try clear hk); (try clear hi)))
  go_ret
  exact ⟨by first | rfl | (simp [errW_none, errW_some] <;> rfl) | (simp [*, errW_none, errW_some] <;> rfl), by repeat (first | (with_reducible first | exact HB.out | apply below_alloc | apply pw_below_drewN | apply below_drew1) | exact HB.out)⟩

end Go.Proofs.YtpmieapgbdbabaaDoor.QAll
end

section
/- Walks, written by a program of this session (wip/pp): a Go function comes to what the Lean function beside it tells. -/
namespace Go.Proofs.YtpmieapgbdbabaaDoor.QAll
open Go.RowKit Go.Proofs.YtpmieapgbdbabaaDoorW.PrintWords Go.Proofs.YtpmieapgbdbabaaDoorW.PrintLast Go.Proofs.YtpmieapgbdbabaaDoorW.PrintMore
attribute [local go_sem] max2_int min2_int max_two min_two max_three min_three max_four min_four
set_option linter.unusedVariables false
set_option linter.unusedSimpArgs false

def squelchref08_Most.j0 : Nat → Bool → Bool → Bool → Option (Int)
 | 0, _, _, _ => none
 | k + 1, x0, x1, x8 => if x8 = true then (some 32) else (if x0 = true then (some 63) else (if x1 = true then (some 4) else (some 7)))
def squelchref08_Most.f (k : Nat) (a0 : Bool) (a1 : Bool) : Option (Int) := if a0 = true then (squelchref08_Most.j0 k a0 a1 a1) else (squelchref08_Most.j0 k a0 a1 false)
set_option maxHeartbeats 8000000 in
set_option maxRecDepth 100000 in
theorem squelchref08_Most.calls (k : Nat) (a0 : Bool) (a1 : Bool) (r : Int) (w : World) (h : squelchref08_Most.f k a0 a1 = some r) :
  Calls Tryd.prog 78 #[.bool a0, .bool a1] w fun e w' => e = .returned (.int .i64 r) ∧ Drawn0 w w' := by
 have H : (if a0 = true then (squelchref08_Most.j0 k a0 a1 a1) else (squelchref08_Most.j0 k a0 a1 false)) = some r := h
 clear h
 have HC3 := Aside0.mk H
 clear H
 go_enter Tryd.func78, Tryd.ntmps78
 go_upto_region 1 with (fail)
 go_cut [8] (fun v8 wc => ∃ (kq : Nat) (x8_2 : Bool), v8 = .bool x8_2 ∧ Aside0 (squelchref08_Most.j0 kq a0 a1 x8_2 = some r) ∧ Aside0 (kq ≤ k) ∧ Drawn0 w wc)
 case first =>
  have H := HC3.out
  clear HC3
  by_cases c4 : a0 = true
  ·subst c4
   have H1 : (squelchref08_Most.j0 k true a1 a1) = some r := by rw [if_pos rfl] at H; exact H
   clear H
   have H := H1
   clear H1
   have H' := Aside0.mk H
   clear H
   go_wp2
   go_meet
   case rel => exact ⟨_, (a1), (by first | rfl | (simp; done) | (simp [*]; done) | (simp; exact (fun l : List UInt8 => (by cases l <;> rfl : l.isEmpty = !(l != []))) _)), H', ⟨by first | omega | exact Nat.le_refl _⟩, by repeat (first | exact Drawn0.refl _ | apply Drawn0.step)⟩
  ·replace c4 := Bool.eq_false_iff.mpr c4
   subst c4
   have H1 : (squelchref08_Most.j0 k false a1 false) = some r := by rw [if_neg (show ¬ (false = true) by decide)] at H; exact H
   clear H
   have H := H1
   clear H1
   have H' := Aside0.mk H
   clear H
   go_wp2
   go_meet
   case rel => exact ⟨_, (false), (by first | rfl | (simp; done) | (simp [*]; done) | (simp; exact (fun l : List UInt8 => (by cases l <;> rfl : l.isEmpty = !(l != []))) _)), H', ⟨by first | omega | exact Nat.le_refl _⟩, by repeat (first | exact Drawn0.refl _ | apply Drawn0.step)⟩
 case rest =>
  clear HC3
  try clear p2
  try clear c4
  obtain ⟨kq, x8_2, rfl, HA, HJ2, ⟨mc2, rfl⟩⟩ := hcut
  cases kq with
  | zero => exact absurd HA.out (by simp [squelchref08_Most.j0])
  | succ kj2 =>
   have H := HA.out
   clear HA
   simp only [squelchref08_Most.j0] at H
   by_cases c5 : x8_2 = true
   ·subst c5
    have H1 : (some 32) = some r := by rw [if_pos rfl] at H; exact H
    clear H
    have H := H1
    clear H1
    obtain rfl := Option.some.inj H
    go_wp2
    go_ret
    exact ⟨by first | rfl | (simp; done) | (simp [*]; done) | (simp; exact (fun l : List UInt8 => (by cases l <;> rfl : l.isEmpty = !(l != []))) _), by repeat (first | exact Drawn0.refl _ | apply Drawn0.step)⟩
   ·replace c5 := Bool.eq_false_iff.mpr c5
    subst c5
    have H1 : (if a0 = true then (some 63) else (if a1 = true then (some 4) else (some 7))) = some r := by rw [if_neg (show ¬ (false = true) by decide)] at H; exact H
    clear H
    have H := H1
    clear H1
    by_cases c6 : a0 = true
    ·subst c6
     have H1 : (some 63) = some r := by rw [if_pos rfl] at H; exact H
     clear H
     have H := H1
     clear H1
     obtain rfl := Option.some.inj H
     go_wp2
     go_ret
     exact ⟨by first | rfl | (simp; done) | (simp [*]; done) | (simp; exact (fun l : List UInt8 => (by cases l <;> rfl : l.isEmpty = !(l != []))) _), by repeat (first | exact Drawn0.refl _ | apply Drawn0.step)⟩
    ·replace c6 := Bool.eq_false_iff.mpr c6
     subst c6
     have H1 : (if a1 = true then (some 4) else (some 7)) = some r := by rw [if_neg (show ¬ (false = true) by decide)] at H; exact H
     clear H
     have H := H1
     clear H1
     by_cases c7 : a1 = true
     ·subst c7
      have H1 : (some 4) = some r := by rw [if_pos rfl] at H; exact H
      clear H
      have H := H1
      clear H1
      obtain rfl := Option.some.inj H
      go_wp2
      go_ret
      exact ⟨by first | rfl | (simp; done) | (simp [*]; done) | (simp; exact (fun l : List UInt8 => (by cases l <;> rfl : l.isEmpty = !(l != []))) _), by repeat (first | exact Drawn0.refl _ | apply Drawn0.step)⟩
     ·replace c7 := Bool.eq_false_iff.mpr c7
      subst c7
      have H1 : (some 7) = some r := by rw [if_neg (show ¬ (false = true) by decide)] at H; exact H
      clear H
      have H := H1
      clear H1
      obtain rfl := Option.some.inj H
      go_wp2
      go_ret
      exact ⟨by first | rfl | (simp; done) | (simp [*]; done) | (simp; exact (fun l : List UInt8 => (by cases l <;> rfl : l.isEmpty = !(l != []))) _), by repeat (first | exact Drawn0.refl _ | apply Drawn0.step)⟩

end Go.Proofs.YtpmieapgbdbabaaDoor.QAll
end
