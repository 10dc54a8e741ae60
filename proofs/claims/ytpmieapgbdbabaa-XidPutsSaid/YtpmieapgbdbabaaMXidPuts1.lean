/- Words, walks and plain laws that the row of the law XidPuts rests on. -/
import Derived.Test.YtpmieapgbdbabaaMXidPuts0
section
/- Walks, written by a program of this session (wip/pp): a Go function comes to what the Lean function beside it tells. -/
namespace Go.Proofs.Ytpmieapgbdbabaa.QXidPuts
open Go.RowKit Go.Proofs.YtpmieapgbdbabaaW.PrintWords Go.Proofs.YtpmieapgbdbabaaW.PrintLast Go.Proofs.YtpmieapgbdbabaaW.PrintMore
attribute [local go_sem] max2_int min2_int max_two min_two max_three min_three max_four min_four
set_option linter.unusedVariables false
set_option linter.unusedSimpArgs false

def xid_Put.f (k : Nat) (a0_0 : Bool) (a0_1 : Bool) (a0_2 : Int) (a0_3 : Int) (a0_4 : Int) (a0_5 : Int) : Option (ByteArray × Int) := (xid_Right.f a0_0 a0_1 a0_2 a0_3 a0_4 a0_5).bind fun t115 => (if t115 = true then ((xid_bit.f a0_0 2).bind fun t116 => ((xid_bit.f a0_1 4).bind fun t117 => ((xid_field.f k 3 (([Go.bits .or .i64 t116 t117, 0] : List Int))).bind fun t121 => ((xid_field.f k 6 (([a0_2 / 256, Go.bits .and .i64 a0_2 255] : List Int))).bind fun t125 => (if t121.size + t125.size ≤ 9223372036854775807 then ((xid_field.f k 8 (([a0_3] : List Int))).bind fun t129 => (if (t121 ++ t125).size + t129.size ≤ 9223372036854775807 then ((xid_field.f k 9 (([a0_4] : List Int))).bind fun t133 => (if ((t121 ++ t125) ++ t129).size + t133.size ≤ 9223372036854775807 then ((xid_field.f k 10 (([a0_5] : List Int))).bind fun t137 => (if (((t121 ++ t125) ++ t129) ++ t133).size + t137.size ≤ 9223372036854775807 then ((some (([0, ((((((t121 ++ t125) ++ t129) ++ t133) ++ t137).size : Int)) % 256] : List Int) : List Int)).bind fun y138 => (if 2 + (strOfNums y138).size ≤ 9223372036854775807 then (if ((⟨#[130, 128]⟩ : ByteArray) ++ (strOfNums y138)).size + ((((t121 ++ t125) ++ t129) ++ t133) ++ t137).size ≤ 9223372036854775807 then (some (((⟨#[130, 128]⟩ : ByteArray) ++ (strOfNums y138)) ++ ((((t121 ++ t125) ++ t129) ++ t133) ++ t137), 0)) else (none)) else (none))) else (none))) else (none))) else (none))) else (none)))))) else (some ((⟨#[]⟩ : ByteArray), 1)))
def xid_Put.T3 : Bool × List (List Nat × List Nat) := (true, [([], []), ([0], [0]), ([1], [1]), ([], []), ([3], [3]), ([4, 2], [4]), ([2, 5], [2, 5]), ([6], [6]), ([7, 5], [7]), ([], []), ([9], [9]), ([10], [10]), ([], []), ([12], [12]), ([13], [13]), ([11, 14], [11, 14]), ([15, 8], [15]), ([8, 16], [8, 16]), ([], []), ([18], [18]), ([19], [19]), ([20, 16], [20]), ([17, 21], [17, 21]), ([], []), ([23], [23]), ([24], [24]), ([25, 21], [25]), ([22, 26], [22, 26]), ([], []), ([28], [28]), ([29], [29]), ([30, 26], [30]), ([27, 31], [27, 31]), ([32, 31, 0, 1, 2, 3, 4, 5, 6, 7, 8, 9, 10, 11, 12, 13, 14, 15, 16, 17, 18, 19, 20, 21, 22, 23, 24, 25, 26, 27, 28, 29, 30, 31, 32], [32])])
def xid_Put.B3 : List Nat := [0, 1, 3, 0, 8, 31, 63, 127, 255, 0, 512, 1536, 0, 4096, 12288, 32256, 65535, 131071, 0, 262144, 786432, 1966079, 4194303, 0, 8388608, 25165824, 62783487, 134217727, 0, 268435456, 805306368, 2008940543, 4294967295, 8589934591]
theorem xid_Put.tab3 : rtab .any (opsOf Try.f10 3) = xid_Put.T3 := by kernel_rfl
theorem xid_Put.bits3 : waitsOk xid_Put.T3.2 xid_Put.B3 = true := by kernel_rfl
set_option maxHeartbeats 8000000 in
set_option maxRecDepth 100000 in
theorem xid_Put.calls (k : Nat) (a0_0 : Bool) (a0_1 : Bool) (a0_2 : Int) (a0_3 : Int) (a0_4 : Int) (a0_5 : Int) (r1 : ByteArray) (r2 : Int) (w : World) (h : xid_Put.f k a0_0 a0_1 a0_2 a0_3 a0_4 a0_5 = some (r1, r2)) :
  Calls Try.prog 10 #[.agg #[.bool a0_0, .bool a0_1, .int .i64 a0_2, .int .i64 a0_3, .int .i64 a0_4, .int .i64 a0_5]] w fun e w' => e = .returned (.tuple #[.string r1, .int .i64 r2]) ∧ Below w.heap.size w w' := by
 have hu23 := Try.underlying23
 have HB := Aside0.mk (Below.refl w.heap.size w)
 have H : ((xid_Right.f a0_0 a0_1 a0_2 a0_3 a0_4 a0_5).bind fun t115 => (if t115 = true then ((xid_bit.f a0_0 2).bind fun t116 => ((xid_bit.f a0_1 4).bind fun t117 => ((xid_field.f k 3 (([Go.bits .or .i64 t116 t117, 0] : List Int))).bind fun t121 => ((xid_field.f k 6 (([a0_2 / 256, Go.bits .and .i64 a0_2 255] : List Int))).bind fun t125 => (if t121.size + t125.size ≤ 9223372036854775807 then ((xid_field.f k 8 (([a0_3] : List Int))).bind fun t129 => (if (t121 ++ t125).size + t129.size ≤ 9223372036854775807 then ((xid_field.f k 9 (([a0_4] : List Int))).bind fun t133 => (if ((t121 ++ t125) ++ t129).size + t133.size ≤ 9223372036854775807 then ((xid_field.f k 10 (([a0_5] : List Int))).bind fun t137 => (if (((t121 ++ t125) ++ t129) ++ t133).size + t137.size ≤ 9223372036854775807 then ((some (([0, ((((((t121 ++ t125) ++ t129) ++ t133) ++ t137).size : Int)) % 256] : List Int) : List Int)).bind fun y138 => (if 2 + (strOfNums y138).size ≤ 9223372036854775807 then (if ((⟨#[130, 128]⟩ : ByteArray) ++ (strOfNums y138)).size + ((((t121 ++ t125) ++ t129) ++ t133) ++ t137).size ≤ 9223372036854775807 then (some (((⟨#[130, 128]⟩ : ByteArray) ++ (strOfNums y138)) ++ ((((t121 ++ t125) ++ t129) ++ t133) ++ t137), 0)) else (none)) else (none))) else (none))) else (none))) else (none))) else (none)))))) else (some ((⟨#[]⟩ : ByteArray), 1)))) = some (r1, r2) := h
 clear h
 replace H := Option.bind_eq_some_iff.mp H
 obtain ⟨t115, A20, H⟩ := H
 replace H : (if t115 = true then ((xid_bit.f a0_0 2).bind fun t116 => ((xid_bit.f a0_1 4).bind fun t117 => ((xid_field.f k 3 (([Go.bits .or .i64 t116 t117, 0] : List Int))).bind fun t121 => ((xid_field.f k 6 (([a0_2 / 256, Go.bits .and .i64 a0_2 255] : List Int))).bind fun t125 => (if t121.size + t125.size ≤ 9223372036854775807 then ((xid_field.f k 8 (([a0_3] : List Int))).bind fun t129 => (if (t121 ++ t125).size + t129.size ≤ 9223372036854775807 then ((xid_field.f k 9 (([a0_4] : List Int))).bind fun t133 => (if ((t121 ++ t125) ++ t129).size + t133.size ≤ 9223372036854775807 then ((xid_field.f k 10 (([a0_5] : List Int))).bind fun t137 => (if (((t121 ++ t125) ++ t129) ++ t133).size + t137.size ≤ 9223372036854775807 then ((some (([0, ((((((t121 ++ t125) ++ t129) ++ t133) ++ t137).size : Int)) % 256] : List Int) : List Int)).bind fun y138 => (if 2 + (strOfNums y138).size ≤ 9223372036854775807 then (if ((⟨#[130, 128]⟩ : ByteArray) ++ (strOfNums y138)).size + ((((t121 ++ t125) ++ t129) ++ t133) ++ t137).size ≤ 9223372036854775807 then (some (((⟨#[130, 128]⟩ : ByteArray) ++ (strOfNums y138)) ++ ((((t121 ++ t125) ++ t129) ++ t133) ++ t137), 0)) else (none)) else (none))) else (none))) else (none))) else (none))) else (none)))))) else (some ((⟨#[]⟩ : ByteArray), 1))) = some (r1, r2) := H
 have A2 := Aside0.mk A20
 clear A20
 by_cases c3 : t115 = true
 ·subst c3
  have H1 : ((xid_bit.f a0_0 2).bind fun t116 => ((xid_bit.f a0_1 4).bind fun t117 => ((xid_field.f k 3 (([Go.bits .or .i64 t116 t117, 0] : List Int))).bind fun t121 => ((xid_field.f k 6 (([a0_2 / 256, Go.bits .and .i64 a0_2 255] : List Int))).bind fun t125 => (if t121.size + t125.size ≤ 9223372036854775807 then ((xid_field.f k 8 (([a0_3] : List Int))).bind fun t129 => (if (t121 ++ t125).size + t129.size ≤ 9223372036854775807 then ((xid_field.f k 9 (([a0_4] : List Int))).bind fun t133 => (if ((t121 ++ t125) ++ t129).size + t133.size ≤ 9223372036854775807 then ((xid_field.f k 10 (([a0_5] : List Int))).bind fun t137 => (if (((t121 ++ t125) ++ t129) ++ t133).size + t137.size ≤ 9223372036854775807 then ((some (([0, ((((((t121 ++ t125) ++ t129) ++ t133) ++ t137).size : Int)) % 256] : List Int) : List Int)).bind fun y138 => (if 2 + (strOfNums y138).size ≤ 9223372036854775807 then (if ((⟨#[130, 128]⟩ : ByteArray) ++ (strOfNums y138)).size + ((((t121 ++ t125) ++ t129) ++ t133) ++ t137).size ≤ 9223372036854775807 then (some (((⟨#[130, 128]⟩ : ByteArray) ++ (strOfNums y138)) ++ ((((t121 ++ t125) ++ t129) ++ t133) ++ t137), 0)) else (none)) else (none))) else (none))) else (none))) else (none))) else (none)))))) = some (r1, r2) := by rw [if_pos rfl] at H; exact H
  clear H
  have H := H1
  clear H1
  replace H := Option.bind_eq_some_iff.mp H
  obtain ⟨t116, A40, H⟩ := H
  replace H : ((xid_bit.f a0_1 4).bind fun t117 => ((xid_field.f k 3 (([Go.bits .or .i64 t116 t117, 0] : List Int))).bind fun t121 => ((xid_field.f k 6 (([a0_2 / 256, Go.bits .and .i64 a0_2 255] : List Int))).bind fun t125 => (if t121.size + t125.size ≤ 9223372036854775807 then ((xid_field.f k 8 (([a0_3] : List Int))).bind fun t129 => (if (t121 ++ t125).size + t129.size ≤ 9223372036854775807 then ((xid_field.f k 9 (([a0_4] : List Int))).bind fun t133 => (if ((t121 ++ t125) ++ t129).size + t133.size ≤ 9223372036854775807 then ((xid_field.f k 10 (([a0_5] : List Int))).bind fun t137 => (if (((t121 ++ t125) ++ t129) ++ t133).size + t137.size ≤ 9223372036854775807 then ((some (([0, ((((((t121 ++ t125) ++ t129) ++ t133) ++ t137).size : Int)) % 256] : List Int) : List Int)).bind fun y138 => (if 2 + (strOfNums y138).size ≤ 9223372036854775807 then (if ((⟨#[130, 128]⟩ : ByteArray) ++ (strOfNums y138)).size + ((((t121 ++ t125) ++ t129) ++ t133) ++ t137).size ≤ 9223372036854775807 then (some (((⟨#[130, 128]⟩ : ByteArray) ++ (strOfNums y138)) ++ ((((t121 ++ t125) ++ t129) ++ t133) ++ t137), 0)) else (none)) else (none))) else (none))) else (none))) else (none))) else (none))))) = some (r1, r2) := H
  have A4 := Aside0.mk A40
  clear A40
  replace H := Option.bind_eq_some_iff.mp H
  obtain ⟨t117, A50, H⟩ := H
  replace H : ((xid_field.f k 3 (([Go.bits .or .i64 t116 t117, 0] : List Int))).bind fun t121 => ((xid_field.f k 6 (([a0_2 / 256, Go.bits .and .i64 a0_2 255] : List Int))).bind fun t125 => (if t121.size + t125.size ≤ 9223372036854775807 then ((xid_field.f k 8 (([a0_3] : List Int))).bind fun t129 => (if (t121 ++ t125).size + t129.size ≤ 9223372036854775807 then ((xid_field.f k 9 (([a0_4] : List Int))).bind fun t133 => (if ((t121 ++ t125) ++ t129).size + t133.size ≤ 9223372036854775807 then ((xid_field.f k 10 (([a0_5] : List Int))).bind fun t137 => (if (((t121 ++ t125) ++ t129) ++ t133).size + t137.size ≤ 9223372036854775807 then ((some (([0, ((((((t121 ++ t125) ++ t129) ++ t133) ++ t137).size : Int)) % 256] : List Int) : List Int)).bind fun y138 => (if 2 + (strOfNums y138).size ≤ 9223372036854775807 then (if ((⟨#[130, 128]⟩ : ByteArray) ++ (strOfNums y138)).size + ((((t121 ++ t125) ++ t129) ++ t133) ++ t137).size ≤ 9223372036854775807 then (some (((⟨#[130, 128]⟩ : ByteArray) ++ (strOfNums y138)) ++ ((((t121 ++ t125) ++ t129) ++ t133) ++ t137), 0)) else (none)) else (none))) else (none))) else (none))) else (none))) else (none)))) = some (r1, r2) := H
  have A5 := Aside0.mk A50
  clear A50
  obtain ⟨y118, hy118⟩ : ∃ y_ : List Int, y_ = (([Go.bits .or .i64 t116 t117, 0] : List Int)) := ⟨_, rfl⟩
  replace H : ((xid_field.f k 3 y118).bind fun t121 => ((xid_field.f k 6 (([a0_2 / 256, Go.bits .and .i64 a0_2 255] : List Int))).bind fun t125 => (if t121.size + t125.size ≤ 9223372036854775807 then ((xid_field.f k 8 (([a0_3] : List Int))).bind fun t129 => (if (t121 ++ t125).size + t129.size ≤ 9223372036854775807 then ((xid_field.f k 9 (([a0_4] : List Int))).bind fun t133 => (if ((t121 ++ t125) ++ t129).size + t133.size ≤ 9223372036854775807 then ((xid_field.f k 10 (([a0_5] : List Int))).bind fun t137 => (if (((t121 ++ t125) ++ t129) ++ t133).size + t137.size ≤ 9223372036854775807 then ((some (([0, ((((((t121 ++ t125) ++ t129) ++ t133) ++ t137).size : Int)) % 256] : List Int) : List Int)).bind fun y138 => (if 2 + (strOfNums y138).size ≤ 9223372036854775807 then (if ((⟨#[130, 128]⟩ : ByteArray) ++ (strOfNums y138)).size + ((((t121 ++ t125) ++ t129) ++ t133) ++ t137).size ≤ 9223372036854775807 then (some (((⟨#[130, 128]⟩ : ByteArray) ++ (strOfNums y138)) ++ ((((t121 ++ t125) ++ t129) ++ t133) ++ t137), 0)) else (none)) else (none))) else (none))) else (none))) else (none))) else (none)))) = some (r1, r2) := by first | (rw [hy118]; with_reducible exact H) | (have H2_ := (Option.bind_some _ _).symm.trans H; rw [hy118]; with_reducible exact H2_) | (have H2_ := (Option.bind_some _ _).symm.trans H; with_reducible exact H2_) | with_reducible exact H | (rw [hy118]; exact H) | exact H
  have Ny118 := Aside0.mk hy118
  clear hy118
  replace H := Option.bind_eq_some_iff.mp H
  obtain ⟨t121, A60, H⟩ := H
  replace H : ((xid_field.f k 6 (([a0_2 / 256, Go.bits .and .i64 a0_2 255] : List Int))).bind fun t125 => (if t121.size + t125.size ≤ 9223372036854775807 then ((xid_field.f k 8 (([a0_3] : List Int))).bind fun t129 => (if (t121 ++ t125).size + t129.size ≤ 9223372036854775807 then ((xid_field.f k 9 (([a0_4] : List Int))).bind fun t133 => (if ((t121 ++ t125) ++ t129).size + t133.size ≤ 9223372036854775807 then ((xid_field.f k 10 (([a0_5] : List Int))).bind fun t137 => (if (((t121 ++ t125) ++ t129) ++ t133).size + t137.size ≤ 9223372036854775807 then ((some (([0, ((((((t121 ++ t125) ++ t129) ++ t133) ++ t137).size : Int)) % 256] : List Int) : List Int)).bind fun y138 => (if 2 + (strOfNums y138).size ≤ 9223372036854775807 then (if ((⟨#[130, 128]⟩ : ByteArray) ++ (strOfNums y138)).size + ((((t121 ++ t125) ++ t129) ++ t133) ++ t137).size ≤ 9223372036854775807 then (some (((⟨#[130, 128]⟩ : ByteArray) ++ (strOfNums y138)) ++ ((((t121 ++ t125) ++ t129) ++ t133) ++ t137), 0)) else (none)) else (none))) else (none))) else (none))) else (none))) else (none))) = some (r1, r2) := H
  have A6 := Aside0.mk A60
  clear A60
  obtain ⟨y122, hy122⟩ : ∃ y_ : List Int, y_ = (([a0_2 / 256, Go.bits .and .i64 a0_2 255] : List Int)) := ⟨_, rfl⟩
  replace H : ((xid_field.f k 6 y122).bind fun t125 => (if t121.size + t125.size ≤ 9223372036854775807 then ((xid_field.f k 8 (([a0_3] : List Int))).bind fun t129 => (if (t121 ++ t125).size + t129.size ≤ 9223372036854775807 then ((xid_field.f k 9 (([a0_4] : List Int))).bind fun t133 => (if ((t121 ++ t125) ++ t129).size + t133.size ≤ 9223372036854775807 then ((xid_field.f k 10 (([a0_5] : List Int))).bind fun t137 => (if (((t121 ++ t125) ++ t129) ++ t133).size + t137.size ≤ 9223372036854775807 then ((some (([0, ((((((t121 ++ t125) ++ t129) ++ t133) ++ t137).size : Int)) % 256] : List Int) : List Int)).bind fun y138 => (if 2 + (strOfNums y138).size ≤ 9223372036854775807 then (if ((⟨#[130, 128]⟩ : ByteArray) ++ (strOfNums y138)).size + ((((t121 ++ t125) ++ t129) ++ t133) ++ t137).size ≤ 9223372036854775807 then (some (((⟨#[130, 128]⟩ : ByteArray) ++ (strOfNums y138)) ++ ((((t121 ++ t125) ++ t129) ++ t133) ++ t137), 0)) else (none)) else (none))) else (none))) else (none))) else (none))) else (none))) = some (r1, r2) := by first | (rw [hy122]; with_reducible exact H) | (have H2_ := (Option.bind_some _ _).symm.trans H; rw [hy122]; with_reducible exact H2_) | (have H2_ := (Option.bind_some _ _).symm.trans H; with_reducible exact H2_) | with_reducible exact H | (rw [hy122]; exact H) | exact H
  have Ny122 := Aside0.mk hy122
  clear hy122
  replace H := Option.bind_eq_some_iff.mp H
  obtain ⟨t125, A70, H⟩ := H
  replace H : (if t121.size + t125.size ≤ 9223372036854775807 then ((xid_field.f k 8 (([a0_3] : List Int))).bind fun t129 => (if (t121 ++ t125).size + t129.size ≤ 9223372036854775807 then ((xid_field.f k 9 (([a0_4] : List Int))).bind fun t133 => (if ((t121 ++ t125) ++ t129).size + t133.size ≤ 9223372036854775807 then ((xid_field.f k 10 (([a0_5] : List Int))).bind fun t137 => (if (((t121 ++ t125) ++ t129) ++ t133).size + t137.size ≤ 9223372036854775807 then ((some (([0, ((((((t121 ++ t125) ++ t129) ++ t133) ++ t137).size : Int)) % 256] : List Int) : List Int)).bind fun y138 => (if 2 + (strOfNums y138).size ≤ 9223372036854775807 then (if ((⟨#[130, 128]⟩ : ByteArray) ++ (strOfNums y138)).size + ((((t121 ++ t125) ++ t129) ++ t133) ++ t137).size ≤ 9223372036854775807 then (some (((⟨#[130, 128]⟩ : ByteArray) ++ (strOfNums y138)) ++ ((((t121 ++ t125) ++ t129) ++ t133) ++ t137), 0)) else (none)) else (none))) else (none))) else (none))) else (none))) else (none)) = some (r1, r2) := H
  have A7 := Aside0.mk A70
  clear A70
  by_cases c8 : t121.size + t125.size ≤ 9223372036854775807
  ·rw [if_pos c8] at H
   have c8b0 := eq_true c8
   have c8b1 : decide (t121.size + t125.size ≤ 9223372036854775807) = true := decide_eq_true c8
   try have c8b2 : (9223372036854775807 < t121.size + t125.size) = False := eq_false (Nat.not_lt.2 c8)
   obtain ⟨y126, hy126⟩ : ∃ y_ : List Int, y_ = (([a0_3] : List Int)) := ⟨_, rfl⟩
   replace H : ((xid_field.f k 8 y126).bind fun t129 => (if (t121 ++ t125).size + t129.size ≤ 9223372036854775807 then ((xid_field.f k 9 (([a0_4] : List Int))).bind fun t133 => (if ((t121 ++ t125) ++ t129).size + t133.size ≤ 9223372036854775807 then ((xid_field.f k 10 (([a0_5] : List Int))).bind fun t137 => (if (((t121 ++ t125) ++ t129) ++ t133).size + t137.size ≤ 9223372036854775807 then ((some (([0, ((((((t121 ++ t125) ++ t129) ++ t133) ++ t137).size : Int)) % 256] : List Int) : List Int)).bind fun y138 => (if 2 + (strOfNums y138).size ≤ 9223372036854775807 then (if ((⟨#[130, 128]⟩ : ByteArray) ++ (strOfNums y138)).size + ((((t121 ++ t125) ++ t129) ++ t133) ++ t137).size ≤ 9223372036854775807 then (some (((⟨#[130, 128]⟩ : ByteArray) ++ (strOfNums y138)) ++ ((((t121 ++ t125) ++ t129) ++ t133) ++ t137), 0)) else (none)) else (none))) else (none))) else (none))) else (none))) = some (r1, r2) := by first | (rw [hy126]; with_reducible exact H) | (have H2_ := (Option.bind_some _ _).symm.trans H; rw [hy126]; with_reducible exact H2_) | (have H2_ := (Option.bind_some _ _).symm.trans H; with_reducible exact H2_) | with_reducible exact H | (rw [hy126]; exact H) | exact H
   have Ny126 := Aside0.mk hy126
   clear hy126
   replace H := Option.bind_eq_some_iff.mp H
   obtain ⟨t129, A90, H⟩ := H
   replace H : (if (t121 ++ t125).size + t129.size ≤ 9223372036854775807 then ((xid_field.f k 9 (([a0_4] : List Int))).bind fun t133 => (if ((t121 ++ t125) ++ t129).size + t133.size ≤ 9223372036854775807 then ((xid_field.f k 10 (([a0_5] : List Int))).bind fun t137 => (if (((t121 ++ t125) ++ t129) ++ t133).size + t137.size ≤ 9223372036854775807 then ((some (([0, ((((((t121 ++ t125) ++ t129) ++ t133) ++ t137).size : Int)) % 256] : List Int) : List Int)).bind fun y138 => (if 2 + (strOfNums y138).size ≤ 9223372036854775807 then (if ((⟨#[130, 128]⟩ : ByteArray) ++ (strOfNums y138)).size + ((((t121 ++ t125) ++ t129) ++ t133) ++ t137).size ≤ 9223372036854775807 then (some (((⟨#[130, 128]⟩ : ByteArray) ++ (strOfNums y138)) ++ ((((t121 ++ t125) ++ t129) ++ t133) ++ t137), 0)) else (none)) else (none))) else (none))) else (none))) else (none)) = some (r1, r2) := H
   have A9 := Aside0.mk A90
   clear A90
   by_cases c10 : (t121 ++ t125).size + t129.size ≤ 9223372036854775807
   ·rw [if_pos c10] at H
    have c10b0 := eq_true c10
    have c10b1 : decide ((t121 ++ t125).size + t129.size ≤ 9223372036854775807) = true := decide_eq_true c10
    try have c10b2 : (9223372036854775807 < (t121 ++ t125).size + t129.size) = False := eq_false (Nat.not_lt.2 c10)
    obtain ⟨y130, hy130⟩ : ∃ y_ : List Int, y_ = (([a0_4] : List Int)) := ⟨_, rfl⟩
    replace H : ((xid_field.f k 9 y130).bind fun t133 => (if ((t121 ++ t125) ++ t129).size + t133.size ≤ 9223372036854775807 then ((xid_field.f k 10 (([a0_5] : List Int))).bind fun t137 => (if (((t121 ++ t125) ++ t129) ++ t133).size + t137.size ≤ 9223372036854775807 then ((some (([0, ((((((t121 ++ t125) ++ t129) ++ t133) ++ t137).size : Int)) % 256] : List Int) : List Int)).bind fun y138 => (if 2 + (strOfNums y138).size ≤ 9223372036854775807 then (if ((⟨#[130, 128]⟩ : ByteArray) ++ (strOfNums y138)).size + ((((t121 ++ t125) ++ t129) ++ t133) ++ t137).size ≤ 9223372036854775807 then (some (((⟨#[130, 128]⟩ : ByteArray) ++ (strOfNums y138)) ++ ((((t121 ++ t125) ++ t129) ++ t133) ++ t137), 0)) else (none)) else (none))) else (none))) else (none))) = some (r1, r2) := by first | (rw [hy130]; with_reducible exact H) | (have H2_ := (Option.bind_some _ _).symm.trans H; rw [hy130]; with_reducible exact H2_) | (have H2_ := (Option.bind_some _ _).symm.trans H; with_reducible exact H2_) | with_reducible exact H | (rw [hy130]; exact H) | exact H
    have Ny130 := Aside0.mk hy130
    clear hy130
    replace H := Option.bind_eq_some_iff.mp H
    obtain ⟨t133, A110, H⟩ := H
    replace H : (if ((t121 ++ t125) ++ t129).size + t133.size ≤ 9223372036854775807 then ((xid_field.f k 10 (([a0_5] : List Int))).bind fun t137 => (if (((t121 ++ t125) ++ t129) ++ t133).size + t137.size ≤ 9223372036854775807 then ((some (([0, ((((((t121 ++ t125) ++ t129) ++ t133) ++ t137).size : Int)) % 256] : List Int) : List Int)).bind fun y138 => (if 2 + (strOfNums y138).size ≤ 9223372036854775807 then (if ((⟨#[130, 128]⟩ : ByteArray) ++ (strOfNums y138)).size + ((((t121 ++ t125) ++ t129) ++ t133) ++ t137).size ≤ 9223372036854775807 then (some (((⟨#[130, 128]⟩ : ByteArray) ++ (strOfNums y138)) ++ ((((t121 ++ t125) ++ t129) ++ t133) ++ t137), 0)) else (none)) else (none))) else (none))) else (none)) = some (r1, r2) := H
    have A11 := Aside0.mk A110
    clear A110
    by_cases c12 : ((t121 ++ t125) ++ t129).size + t133.size ≤ 9223372036854775807
    ·rw [if_pos c12] at H
     have c12b0 := eq_true c12
     have c12b1 : decide (((t121 ++ t125) ++ t129).size + t133.size ≤ 9223372036854775807) = true := decide_eq_true c12
     try have c12b2 : (9223372036854775807 < ((t121 ++ t125) ++ t129).size + t133.size) = False := eq_false (Nat.not_lt.2 c12)
     obtain ⟨y134, hy134⟩ : ∃ y_ : List Int, y_ = (([a0_5] : List Int)) := ⟨_, rfl⟩
     replace H : ((xid_field.f k 10 y134).bind fun t137 => (if (((t121 ++ t125) ++ t129) ++ t133).size + t137.size ≤ 9223372036854775807 then ((some (([0, ((((((t121 ++ t125) ++ t129) ++ t133) ++ t137).size : Int)) % 256] : List Int) : List Int)).bind fun y138 => (if 2 + (strOfNums y138).size ≤ 9223372036854775807 then (if ((⟨#[130, 128]⟩ : ByteArray) ++ (strOfNums y138)).size + ((((t121 ++ t125) ++ t129) ++ t133) ++ t137).size ≤ 9223372036854775807 then (some (((⟨#[130, 128]⟩ : ByteArray) ++ (strOfNums y138)) ++ ((((t121 ++ t125) ++ t129) ++ t133) ++ t137), 0)) else (none)) else (none))) else (none))) = some (r1, r2) := by first | (rw [hy134]; with_reducible exact H) | (have H2_ := (Option.bind_some _ _).symm.trans H; rw [hy134]; with_reducible exact H2_) | (have H2_ := (Option.bind_some _ _).symm.trans H; with_reducible exact H2_) | with_reducible exact H | (rw [hy134]; exact H) | exact H
     have Ny134 := Aside0.mk hy134
     clear hy134
     replace H := Option.bind_eq_some_iff.mp H
     obtain ⟨t137, A130, H⟩ := H
     replace H : (if (((t121 ++ t125) ++ t129) ++ t133).size + t137.size ≤ 9223372036854775807 then ((some (([0, ((((((t121 ++ t125) ++ t129) ++ t133) ++ t137).size : Int)) % 256] : List Int) : List Int)).bind fun y138 => (if 2 + (strOfNums y138).size ≤ 9223372036854775807 then (if ((⟨#[130, 128]⟩ : ByteArray) ++ (strOfNums y138)).size + ((((t121 ++ t125) ++ t129) ++ t133) ++ t137).size ≤ 9223372036854775807 then (some (((⟨#[130, 128]⟩ : ByteArray) ++ (strOfNums y138)) ++ ((((t121 ++ t125) ++ t129) ++ t133) ++ t137), 0)) else (none)) else (none))) else (none)) = some (r1, r2) := H
     have A13 := Aside0.mk A130
     clear A130
     by_cases c14 : (((t121 ++ t125) ++ t129) ++ t133).size + t137.size ≤ 9223372036854775807
     ·rw [if_pos c14] at H
      have c14b0 := eq_true c14
      have c14b1 : decide ((((t121 ++ t125) ++ t129) ++ t133).size + t137.size ≤ 9223372036854775807) = true := decide_eq_true c14
      try have c14b2 : (9223372036854775807 < (((t121 ++ t125) ++ t129) ++ t133).size + t137.size) = False := eq_false (Nat.not_lt.2 c14)
      obtain ⟨y138, hy138⟩ : ∃ y_ : List Int, y_ = (([0, ((((((t121 ++ t125) ++ t129) ++ t133) ++ t137).size : Int)) % 256] : List Int)) := ⟨_, rfl⟩
      replace H : (if 2 + (strOfNums y138).size ≤ 9223372036854775807 then (if ((⟨#[130, 128]⟩ : ByteArray) ++ (strOfNums y138)).size + ((((t121 ++ t125) ++ t129) ++ t133) ++ t137).size ≤ 9223372036854775807 then (some (((⟨#[130, 128]⟩ : ByteArray) ++ (strOfNums y138)) ++ ((((t121 ++ t125) ++ t129) ++ t133) ++ t137), 0)) else (none)) else (none)) = some (r1, r2) := by first | (rw [hy138]; with_reducible exact H) | (have H2_ := (Option.bind_some _ _).symm.trans H; rw [hy138]; with_reducible exact H2_) | (have H2_ := (Option.bind_some _ _).symm.trans H; with_reducible exact H2_) | with_reducible exact H | (rw [hy138]; exact H) | exact H
      have Ny138 := Aside0.mk hy138
      clear hy138
      by_cases c15 : 2 + (strOfNums y138).size ≤ 9223372036854775807
      ·rw [if_pos c15] at H
       have c15b0 := eq_true c15
       have c15b1 : decide (2 + (strOfNums y138).size ≤ 9223372036854775807) = true := decide_eq_true c15
       try have c15b2 : (9223372036854775807 < 2 + (strOfNums y138).size) = False := eq_false (Nat.not_lt.2 c15)
       by_cases c16 : ((⟨#[130, 128]⟩ : ByteArray) ++ (strOfNums y138)).size + ((((t121 ++ t125) ++ t129) ++ t133) ++ t137).size ≤ 9223372036854775807
       ·rw [if_pos c16] at H
        have c16b0 := eq_true c16
        have c16b1 : decide (((⟨#[130, 128]⟩ : ByteArray) ++ (strOfNums y138)).size + ((((t121 ++ t125) ++ t129) ++ t133) ++ t137).size ≤ 9223372036854775807) = true := decide_eq_true c16
        try have c16b2 : (9223372036854775807 < ((⟨#[130, 128]⟩ : ByteArray) ++ (strOfNums y138)).size + ((((t121 ++ t125) ++ t129) ++ t133) ++ t137).size) = False := eq_false (Nat.not_lt.2 c16)
        simp only [Option.some.injEq, Prod.mk.injEq] at H
        obtain ⟨rfl, rfl⟩ := H
        go_enter Try.func10, Try.ntmps10
        try go_wp2_with (first | ((with_reducible refine gate_dst (N := 1) rfl ?_); refine box_event ?hg (N := 1) ?hd (cs := #[.bool a0_0, .bool a0_1, .int .i64 a0_2, .int .i64 a0_3, .int .i64 a0_4, .int .i64 a0_5]) (t := 23) ?hr ?_; (case hd => rfl); (case hg => rfl); (case hr => first | (go_simp; done) | (go_simp; rfl)); intro gb114 hg w17 hbox hb; have n0_ := Aside0.mk (below_step (by repeat (first | (with_reducible first | exact HB.out | apply below_alloc | apply pw_below_drewN | apply below_drew1) | exact HB.out)) hb); have n1_ := Aside0.mk (hbox); have n2_ := Aside0.mk ((by rw [hg]; exact (below_size (by repeat (first | (with_reducible first | exact HB.out | apply below_alloc | apply pw_below_drewN | apply below_drew1) | exact HB.out))) : w.heap.size ≤ gb114)); have n3_ := Aside0.mk ((by rw [hg]; exact (below_size (by repeat (first | (with_reducible first | exact HB.out | apply below_alloc | apply pw_below_drewN | apply below_drew1) | exact HB.out))) : w.heap.size ≤ gb114)); clear HB; have HB := n0_; have BK114 := n1_; have GW114 := n2_; have GE114 := n3_; clear n0_ n1_ n2_ n3_; clear hb hbox hg; have hcz18_0 : w17.cell? ⟨gb114, 0, none⟩ = some (.bool a0_0) := (blk_cell BK114.out 0).trans rfl; have hcz18_1 : w17.cell? ⟨gb114, 1, none⟩ = some (.bool a0_1) := (blk_cell BK114.out 1).trans rfl; have hcz18_2 : w17.cell? ⟨gb114, 2, none⟩ = some (.int .i64 a0_2) := (blk_cell BK114.out 2).trans rfl; have hcz18_3 : w17.cell? ⟨gb114, 3, none⟩ = some (.int .i64 a0_3) := (blk_cell BK114.out 3).trans rfl; have hcz18_4 : w17.cell? ⟨gb114, 4, none⟩ = some (.int .i64 a0_4) := (blk_cell BK114.out 4).trans rfl; have hcz18_5 : w17.cell? ⟨gb114, 5, none⟩ = some (.int .i64 a0_5) := (blk_cell BK114.out 5).trans rfl; have hfz18_0 := blk_frozen BK114.out 0; have hfz18_1 := blk_frozen BK114.out 1; have hfz18_2 := blk_frozen BK114.out 2; have hfz18_3 := blk_frozen BK114.out 3; have hfz18_4 := blk_frozen BK114.out 4; have hfz18_5 := blk_frozen BK114.out 5) | ((with_reducible refine gate_callee (f := 9) rfl ?_); refine goesL_ (some 6) rfl rfl Try.func9 (by kernel_rfl) rfl #[.agg #[.bool a0_0, .bool a0_1, .int .i64 a0_2, .int .i64 a0_3, .int .i64 a0_4, .int .i64 a0_5]] rfl (by (try simp only [List.map_toArray, List.map_cons, List.map_nil]); first | done | rfl | (simp only [List.length_drop, List.length_take]; rfl)) ?_; (with_reducible refine (xid_Right.calls a0_0 a0_1 a0_2 a0_3 a0_4 a0_5 true _ A2.out).mono ?_); rintro e w19 ⟨rfl, hb⟩; refine ⟨_, rfl, ?_⟩; have n0_ := Aside0.mk (blk_below (g := gb114) (o := .cells #[.bool a0_0, .bool a0_1, .int .i64 a0_2, .int .i64 a0_3, .int .i64 a0_4, .int .i64 a0_5] 23 (0, 0)) (by (with_reducible repeat (first | refine blk_drewN ?_ _ | refine blk_drew ?_ | refine blk_alloc ?_ _)); exact BK114.out) hb); have n1_ := Aside0.mk (below_step (by repeat (first | (with_reducible first | exact HB.out | apply below_alloc | apply pw_below_drewN | apply below_drew1 | refine below_set ?_ GE114.out) | exact HB.out)) hb); clear BK114; clear HB; have BK114 := n0_; have HB := n1_; clear n0_ n1_; (try clear hb); (try clear hb2); (try clear hk); (try clear hi)))
        have n0_ := Aside0.mk (blk_drew BK114.out)
        have n1_ := Aside0.mk (below_drew1 HB.out)
        clear BK114
        clear HB
        have BK114 := n0_
        have HB := n1_
        clear n0_ n1_
        refine start_ (n := 34) (S := fun w' => True) (ds := []) #[false, false, false, false, false, false, false, false, false, false, false, false, false, false, false, false, false, false, false, false, false, false, false, false, false, false, false, false, false, false, false, false, false, false] (by kernel_rfl) rfl rfl trivial (fun hHeld => ?_); refine with_tabW xid_Put.tab3 xid_Put.bits3 (fun HT_ HW_ => ?_)
        generalize w19.drew = w20 at BK114 HB hHeld ⊢
        refine pure_ (i := 0) (N := some 8) (v := ?_) (a' := ?_) #[true, false, false, false, false, false, false, false, false, false, false, false, false, false, false, false, false, false, false, false, false, false, false, false, false, false, false, false, false, false, false, false, false, false] rfl rfl (any_of HT_.out (by kernel_rfl)) (fun _ _ _ h => h) (Or.inl ⟨by rfl, ?_⟩) ?_ ?_
        rotate_left
        ·intro w'
         go_simp
         with_reducible rfl
        rotate_left
        ·simp only [Act.put, List.setIfInBounds_toArray, List.set_cons_zero, List.set_cons_succ, i64_w, i32_w]
         rfl
        refine pure_ (i := 3) (N := some 11) (v := ?_) (a' := ?_) #[true, false, false, true, false, false, false, false, false, false, false, false, false, false, false, false, false, false, false, false, false, false, false, false, false, false, false, false, false, false, false, false, false, false] rfl rfl (any_of HT_.out (by kernel_rfl)) (fun _ _ _ h => h) (Or.inl ⟨by rfl, ?_⟩) ?_ ?_
        rotate_left
        ·intro w'
         go_simp
         with_reducible rfl
        rotate_left
        ·simp only [Act.put, List.setIfInBounds_toArray, List.set_cons_zero, List.set_cons_succ, i64_w, i32_w]
         rfl
        refine pure_ (i := 9) (N := some 17) (v := ?_) (a' := ?_) #[true, false, false, true, false, false, false, false, false, true, false, false, false, false, false, false, false, false, false, false, false, false, false, false, false, false, false, false, false, false, false, false, false, false] rfl rfl (any_of HT_.out (by kernel_rfl)) (fun _ _ _ h => h) (Or.inl ⟨by rfl, ?_⟩) ?_ ?_
        rotate_left
        ·intro w'
         go_simp
         with_reducible rfl
        rotate_left
        ·simp only [Act.put, List.setIfInBounds_toArray, List.set_cons_zero, List.set_cons_succ, i64_w, i32_w]
         rfl
        refine pure_ (i := 12) (N := some 20) (v := ?_) (a' := ?_) #[true, false, false, true, false, false, false, false, false, true, false, false, true, false, false, false, false, false, false, false, false, false, false, false, false, false, false, false, false, false, false, false, false, false] rfl rfl (any_of HT_.out (by kernel_rfl)) (fun _ _ _ h => h) (Or.inl ⟨by rfl, ?_⟩) ?_ ?_
        rotate_left
        ·intro w'
         go_simp
         with_reducible rfl
        rotate_left
        ·simp only [Act.put, List.setIfInBounds_toArray, List.set_cons_zero, List.set_cons_succ, i64_w, i32_w]
         rfl
        refine pure_ (i := 18) (N := some 26) (v := ?_) (a' := ?_) #[true, false, false, true, false, false, false, false, false, true, false, false, true, false, false, false, false, false, true, false, false, false, false, false, false, false, false, false, false, false, false, false, false, false] rfl rfl (any_of HT_.out (by kernel_rfl)) (fun _ _ _ h => h) (Or.inl ⟨by rfl, ?_⟩) ?_ ?_
        rotate_left
        ·intro w'
         go_simp
         with_reducible rfl
        rotate_left
        ·simp only [Act.put, List.setIfInBounds_toArray, List.set_cons_zero, List.set_cons_succ, i64_w, i32_w]
         rfl
        refine pure_ (i := 23) (N := some 31) (v := ?_) (a' := ?_) #[true, false, false, true, false, false, false, false, false, true, false, false, true, false, false, false, false, false, true, false, false, false, false, true, false, false, false, false, false, false, false, false, false, false] rfl rfl (any_of HT_.out (by kernel_rfl)) (fun _ _ _ h => h) (Or.inl ⟨by rfl, ?_⟩) ?_ ?_
        rotate_left
        ·intro w'
         go_simp
         with_reducible rfl
        rotate_left
        ·simp only [Act.put, List.setIfInBounds_toArray, List.set_cons_zero, List.set_cons_succ, i64_w, i32_w]
         rfl
        refine pure_ (i := 28) (N := some 36) (v := ?_) (a' := ?_) #[true, false, false, true, false, false, false, false, false, true, false, false, true, false, false, false, false, false, true, false, false, false, false, true, false, false, false, false, true, false, false, false, false, false] rfl rfl (any_of HT_.out (by kernel_rfl)) (fun _ _ _ h => h) (Or.inl ⟨by rfl, ?_⟩) ?_ ?_
        rotate_left
        ·intro w'
         go_simp
         with_reducible rfl
        rotate_left
        ·simp only [Act.put, List.setIfInBounds_toArray, List.set_cons_zero, List.set_cons_succ, i64_w, i32_w]
         rfl
        refine inv_at [1, 2, 4, 5, 6, 7, 8, 10, 11, 13, 14, 15, 16, 17, 19, 20, 21, 22, 24, 25, 26, 27, 29, 30, 31, 32, 33] (fun a0_ b a w' => ∃ (v119 : Value) (v123 : Value) (v127 : Value) (v131 : Value) (v135 : Value), a = putSel a0_ b [(1, 9, .bool a0_0), (2, 10, .int .i64 t116), (4, 12, .bool a0_1), (5, 13, .int .i64 t117), (6, 14, .int .i64 (Go.bits .or .i64 t116 t117)), (7, 15, v119), (8, 16, .string t121), (10, 18, .int .i64 a0_2), (11, 19, .int .i64 (a0_2 / 256)), (13, 21, .int .i64 a0_2), (14, 22, .int .i64 (Go.bits .and .i64 a0_2 255)), (15, 23, v123), (16, 24, .string t125), (17, 25, .string (t121 ++ t125)), (19, 27, .int .i64 a0_3), (20, 28, v127), (21, 29, .string t129), (22, 30, .string ((t121 ++ t125) ++ t129)), (24, 32, .int .i64 a0_4), (25, 33, v131), (26, 34, .string t133), (27, 35, .string (((t121 ++ t125) ++ t129) ++ t133)), (29, 37, .int .i64 a0_5), (30, 38, v135), (31, 39, .string t137), (32, 40, .string ((((t121 ++ t125) ++ t129) ++ t133) ++ t137)), (33, 4, .string ((((t121 ++ t125) ++ t129) ++ t133) ++ t137))] ∧ (w'.heap[gb114]? = some (.cells #[.bool a0_0, .bool a0_1, .int .i64 a0_2, .int .i64 a0_3, .int .i64 a0_4, .int .i64 a0_5] 23 (0, 0))) ∧ (Below w.heap.size w w') ∧ (b 7 = true → Kd.R (Kd.int .i64) 3 w' w.heap.size (fun _ => True) v119 y118) ∧ (b 15 = true → Kd.R (Kd.int .i64) 3 w' w.heap.size (fun _ => True) v123 y122) ∧ (b 20 = true → Kd.R (Kd.int .i64) 3 w' w.heap.size (fun _ => True) v127 y126) ∧ (b 25 = true → Kd.R (Kd.int .i64) 3 w' w.heap.size (fun _ => True) v131 y130) ∧ (b 30 = true → Kd.R (Kd.int .i64) 3 w' w.heap.size (fun _ => True) v135 y134)) HT_.out HW_.out (by kernel_rfl) (by kernel_rfl) ?_ ?_ ?_
        ·exact ⟨.bool false, .bool false, .bool false, .bool false, .bool false, by simp only [putSel, Bool.false_eq_true, if_false], BK114.out, HB.out, fun h_ => absurd h_ (by decide), fun h_ => absurd h_ (by decide), fun h_ => absurd h_ (by decide), fun h_ => absurd h_ (by decide), fun h_ => absurd h_ (by decide)⟩
        ·skip
         clear BK114 HB
         refine steps_cons ?_ ?_
         ·rintro b a w' ⟨v119, v123, v127, v131, v135, ha, Q_BK114, Q_HB, Q_HO120, Q_HO124, Q_HO128, Q_HO132, Q_HO136⟩ hb_ hon hoff
          refine ⟨_, rfl, fun K hK => ?_⟩
          have e8 : a.tmps[8]? = some (.pointer (some ⟨gb114, 0, none⟩)) := by rw [ha]; exact (putSel_off rfl).trans rfl
          replace ha := Aside0.mk ha
          have BK114 := Aside0.mk Q_BK114
          have HB := Aside0.mk Q_HB
          have hc0_ : w'.cell? ⟨gb114, 0, none⟩ = some (.bool a0_0) := (blk_cell BK114.out 0).trans rfl
          have hc1_ : w'.cell? ⟨gb114, 1, none⟩ = some (.bool a0_1) := (blk_cell BK114.out 1).trans rfl
          have hc2_ : w'.cell? ⟨gb114, 2, none⟩ = some (.int .i64 a0_2) := (blk_cell BK114.out 2).trans rfl
          have hc3_ : w'.cell? ⟨gb114, 3, none⟩ = some (.int .i64 a0_3) := (blk_cell BK114.out 3).trans rfl
          have hc4_ : w'.cell? ⟨gb114, 4, none⟩ = some (.int .i64 a0_4) := (blk_cell BK114.out 4).trans rfl
          have hc5_ : w'.cell? ⟨gb114, 5, none⟩ = some (.int .i64 a0_5) := (blk_cell BK114.out 5).trans rfl
          refine value_ (w1 := w') (v := .bool a0_0) (by rfl) rfl ?_ ?_
          ·go_simp
           (try simp only [i64_w])
           try rfl
           all_goals (try ((try simp only [ByteArray.size_append] at *); omega))
          refine hK.out _ _ ⟨v119, v123, v127, v131, v135, (by rw [ha.out]; exact putSel_upk 0 hb_ rfl rfl rfl), Q_BK114, Q_HB, fun h0_ => absurd ((hoff 7 (by kernel_rfl)).symm.trans h0_) (by decide), Q_HO124, Q_HO128, Q_HO132, Q_HO136⟩
         refine steps_cons ?_ ?_
         ·rintro b a w' ⟨v119, v123, v127, v131, v135, ha, Q_BK114, Q_HB, Q_HO120, Q_HO124, Q_HO128, Q_HO132, Q_HO136⟩ hb_ hon hoff
          refine ⟨_, rfl, fun K hK => ?_⟩
          have e9 : a.tmps[9]? = some (.bool a0_0) := by rw [ha]; exact putSel_on (e := (1, 9, .bool a0_0)) 0 rfl rfl (hon 1 (by kernel_rfl)) rfl
          replace ha := Aside0.mk ha
          have BK114 := Aside0.mk Q_BK114
          have HB := Aside0.mk Q_HB
          refine goes_ Try.func18 (by kernel_rfl) rfl #[.bool a0_0, .int .i64 2] (by rfl) rfl rfl (by first | (simp only [List.map_toArray, List.map_cons, List.map_nil, Act.eval, Array.getD_eq_getD_getElem?, Option.getD_some, e9]; done) | (simp only [List.map_toArray, List.map_cons, List.map_nil, Act.eval, Array.getD_eq_getD_getElem?, Option.getD_some, e9]; rfl)) ?_
          with_reducible refine (xid_bit.calls a0_0 2 t116 _ A4.out).mono ?_
          rintro e w' ⟨rfl, ⟨nd, rfl⟩⟩
          refine ⟨_, rfl, ?_⟩
          refine hK.out _ _ ⟨v119, v123, v127, v131, v135, (by rw [ha.out]; exact putSel_upk 1 hb_ rfl rfl rfl), (by (with_reducible repeat (first | refine blk_drewN ?_ _ | refine blk_drew ?_ | refine blk_alloc ?_ _)); exact BK114.out), (by repeat (first | (with_reducible first | exact HB.out | apply below_alloc | apply pw_below_drewN | apply below_drew1 | refine below_set ?_ GE114.out) | exact HB.out)), fun h0_ => absurd ((hoff 7 (by kernel_rfl)).symm.trans h0_) (by decide), fun h0_ => (by (with_reducible repeat (first | apply Kd.R_alloc | apply Kd.R_drewN | apply Kd.R_drew)); exact (Q_HO124 h0_)), fun h0_ => (by (with_reducible repeat (first | apply Kd.R_alloc | apply Kd.R_drewN | apply Kd.R_drew)); exact (Q_HO128 h0_)), fun h0_ => (by (with_reducible repeat (first | apply Kd.R_alloc | apply Kd.R_drewN | apply Kd.R_drew)); exact (Q_HO132 h0_)), fun h0_ => (by (with_reducible repeat (first | apply Kd.R_alloc | apply Kd.R_drewN | apply Kd.R_drew)); exact (Q_HO136 h0_))⟩
         refine steps_cons ?_ ?_
         ·rintro b a w' ⟨v119, v123, v127, v131, v135, ha, Q_BK114, Q_HB, Q_HO120, Q_HO124, Q_HO128, Q_HO132, Q_HO136⟩ hb_ hon hoff
          refine ⟨_, rfl, fun K hK => ?_⟩
          have e11 : a.tmps[11]? = some (.pointer (some ⟨gb114, 1, none⟩)) := by rw [ha]; exact (putSel_off rfl).trans rfl
          replace ha := Aside0.mk ha
          have BK114 := Aside0.mk Q_BK114
          have HB := Aside0.mk Q_HB
          have hc0_ : w'.cell? ⟨gb114, 0, none⟩ = some (.bool a0_0) := (blk_cell BK114.out 0).trans rfl
          have hc1_ : w'.cell? ⟨gb114, 1, none⟩ = some (.bool a0_1) := (blk_cell BK114.out 1).trans rfl
          have hc2_ : w'.cell? ⟨gb114, 2, none⟩ = some (.int .i64 a0_2) := (blk_cell BK114.out 2).trans rfl
          have hc3_ : w'.cell? ⟨gb114, 3, none⟩ = some (.int .i64 a0_3) := (blk_cell BK114.out 3).trans rfl
          have hc4_ : w'.cell? ⟨gb114, 4, none⟩ = some (.int .i64 a0_4) := (blk_cell BK114.out 4).trans rfl
          have hc5_ : w'.cell? ⟨gb114, 5, none⟩ = some (.int .i64 a0_5) := (blk_cell BK114.out 5).trans rfl
          refine value_ (w1 := w') (v := .bool a0_1) (by rfl) rfl ?_ ?_
          ·go_simp
           (try simp only [i64_w])
           try rfl
           all_goals (try ((try simp only [ByteArray.size_append] at *); omega))
          refine hK.out _ _ ⟨v119, v123, v127, v131, v135, (by rw [ha.out]; exact putSel_upk 2 hb_ rfl rfl rfl), Q_BK114, Q_HB, fun h0_ => absurd ((hoff 7 (by kernel_rfl)).symm.trans h0_) (by decide), Q_HO124, Q_HO128, Q_HO132, Q_HO136⟩
         refine steps_cons ?_ ?_
         ·rintro b a w' ⟨v119, v123, v127, v131, v135, ha, Q_BK114, Q_HB, Q_HO120, Q_HO124, Q_HO128, Q_HO132, Q_HO136⟩ hb_ hon hoff
          refine ⟨_, rfl, fun K hK => ?_⟩
          have e12 : a.tmps[12]? = some (.bool a0_1) := by rw [ha]; exact putSel_on (e := (4, 12, .bool a0_1)) 2 rfl rfl (hon 4 (by kernel_rfl)) rfl
          replace ha := Aside0.mk ha
          have BK114 := Aside0.mk Q_BK114
          have HB := Aside0.mk Q_HB
          refine goes_ Try.func18 (by kernel_rfl) rfl #[.bool a0_1, .int .i64 4] (by rfl) rfl rfl (by first | (simp only [List.map_toArray, List.map_cons, List.map_nil, Act.eval, Array.getD_eq_getD_getElem?, Option.getD_some, e12]; done) | (simp only [List.map_toArray, List.map_cons, List.map_nil, Act.eval, Array.getD_eq_getD_getElem?, Option.getD_some, e12]; rfl)) ?_
          with_reducible refine (xid_bit.calls a0_1 4 t117 _ A5.out).mono ?_
          rintro e w' ⟨rfl, ⟨nd, rfl⟩⟩
          refine ⟨_, rfl, ?_⟩
          refine hK.out _ _ ⟨v119, v123, v127, v131, v135, (by rw [ha.out]; exact putSel_upk 3 hb_ rfl rfl rfl), (by (with_reducible repeat (first | refine blk_drewN ?_ _ | refine blk_drew ?_ | refine blk_alloc ?_ _)); exact BK114.out), (by repeat (first | (with_reducible first | exact HB.out | apply below_alloc | apply pw_below_drewN | apply below_drew1 | refine below_set ?_ GE114.out) | exact HB.out)), fun h0_ => absurd ((hoff 7 (by kernel_rfl)).symm.trans h0_) (by decide), fun h0_ => (by (with_reducible repeat (first | apply Kd.R_alloc | apply Kd.R_drewN | apply Kd.R_drew)); exact (Q_HO124 h0_)), fun h0_ => (by (with_reducible repeat (first | apply Kd.R_alloc | apply Kd.R_drewN | apply Kd.R_drew)); exact (Q_HO128 h0_)), fun h0_ => (by (with_reducible repeat (first | apply Kd.R_alloc | apply Kd.R_drewN | apply Kd.R_drew)); exact (Q_HO132 h0_)), fun h0_ => (by (with_reducible repeat (first | apply Kd.R_alloc | apply Kd.R_drewN | apply Kd.R_drew)); exact (Q_HO136 h0_))⟩
         refine steps_cons ?_ ?_
         ·rintro b a w' ⟨v119, v123, v127, v131, v135, ha, Q_BK114, Q_HB, Q_HO120, Q_HO124, Q_HO128, Q_HO132, Q_HO136⟩ hb_ hon hoff
          refine ⟨_, rfl, fun K hK => ?_⟩
          have e10 : a.tmps[10]? = some (.int .i64 t116) := by rw [ha]; exact putSel_on (e := (2, 10, .int .i64 t116)) 1 rfl rfl (hon 2 (by kernel_rfl)) rfl
          have e13 : a.tmps[13]? = some (.int .i64 t117) := by rw [ha]; exact putSel_on (e := (5, 13, .int .i64 t117)) 3 rfl rfl (hon 5 (by kernel_rfl)) rfl
          replace ha := Aside0.mk ha
          have BK114 := Aside0.mk Q_BK114
          have HB := Aside0.mk Q_HB
          refine value_ (w1 := w') (v := .int .i64 (Go.bits .or .i64 t116 t117)) (by rfl) rfl ?_ ?_
          ·go_simp
           (try simp only [i64_w])
           try rfl
           all_goals (try ((try simp only [ByteArray.size_append] at *); omega))
          refine hK.out _ _ ⟨v119, v123, v127, v131, v135, (by rw [ha.out]; exact putSel_upk 4 hb_ rfl rfl rfl), Q_BK114, Q_HB, fun h0_ => absurd ((hoff 7 (by kernel_rfl)).symm.trans h0_) (by decide), Q_HO124, Q_HO128, Q_HO132, Q_HO136⟩
         refine steps_cons ?_ ?_
         ·rintro b a w' ⟨v119, v123, v127, v131, v135, ha, Q_BK114, Q_HB, Q_HO120, Q_HO124, Q_HO128, Q_HO132, Q_HO136⟩ hb_ hon hoff
          refine ⟨_, rfl, fun K hK => ?_⟩
          have e14 : a.tmps[14]? = some (.int .i64 (Go.bits .or .i64 t116 t117)) := by rw [ha]; exact putSel_on (e := (6, 14, .int .i64 (Go.bits .or .i64 t116 t117))) 4 rfl rfl (hon 6 (by kernel_rfl)) rfl
          replace ha := Aside0.mk ha
          have BK114 := Aside0.mk Q_BK114
          have HB := Aside0.mk Q_HB
          refine Kd.R_lit_step (Kd.int .i64) _ 3 ?hg (N := 15) ?hd (xs := ([Go.bits .or .i64 t116 t117, 0] : List Int)) (inner := [.int .i64 (Go.bits .or .i64 t116 t117), .int .i64 0]) (ok := fun _ => True) (okp := fun _ => True) ?hr ?hp (fun _ hk => hk) trivial (Below.refl _ _) (Nat.le_refl _) (by simp) ?_; (case hd => rfl); (case hg => rfl); (case hr => first | (go_simp; done) | (go_simp; rfl)); (case hp => exact (Reps.one (show Kd.M (Kd.int .i64) _ _ _ (Go.bits .or .i64 t116 t117) [.int .i64 (Go.bits .or .i64 t116 t117)] from rfl) (Reps.one (show Kd.M (Kd.int .i64) _ _ _ 0 [.int .i64 0] from rfl) (Reps.none _ _))))
          intro v119 w22 ho23 hb hg_ hnew_
          clear hg_ hnew_
          (first | rw [← Ny118.out] at ho23 | (simp only [Int.reduceToNat] at ho23; rw [← Ny118.out] at ho23))
          have n0_ := Aside0.mk (Kd.R_lower ho23 (below_size (by repeat (first | (with_reducible first | exact HB.out | apply below_alloc | apply pw_below_drewN | apply below_drew1 | refine below_set ?_ GE114.out) | exact HB.out))))
          have n1_ := Aside0.mk (blk_below (g := gb114) (o := .cells #[.bool a0_0, .bool a0_1, .int .i64 a0_2, .int .i64 a0_3, .int .i64 a0_4, .int .i64 a0_5] 23 (0, 0)) (by (with_reducible repeat (first | refine blk_drewN ?_ _ | refine blk_drew ?_ | refine blk_alloc ?_ _)); exact BK114.out) hb)
          have n2_ := Aside0.mk (below_step (by repeat (first | (with_reducible first | exact HB.out | apply below_alloc | apply pw_below_drewN | apply below_drew1 | refine below_set ?_ GE114.out) | exact HB.out)) hb)
          have z_HO124 := fun (h0_ : b 15 = true) => (show Kd.R (Kd.int .i64) 3 w22 w.heap.size (fun _ => True) v123 y122 from by first | exact (Kd.R_elder' (by (with_reducible repeat (first | apply Kd.R_alloc | apply Kd.R_drewN | apply Kd.R_drew)); exact (Q_HO124 h0_)) (Kd.R_base ho23) hb) | exact Kd.R_mono (Kd.R_elder' (by (with_reducible repeat (first | apply Kd.R_alloc | apply Kd.R_drewN | apply Kd.R_drew)); exact (Q_HO124 h0_)) (Kd.R_base ho23) hb) (fun _ h_ => by first | trivial | exact h_ | exact h_.1))
          have z_HO128 := fun (h0_ : b 20 = true) => (show Kd.R (Kd.int .i64) 3 w22 w.heap.size (fun _ => True) v127 y126 from by first | exact (Kd.R_elder' (by (with_reducible repeat (first | apply Kd.R_alloc | apply Kd.R_drewN | apply Kd.R_drew)); exact (Q_HO128 h0_)) (Kd.R_base ho23) hb) | exact Kd.R_mono (Kd.R_elder' (by (with_reducible repeat (first | apply Kd.R_alloc | apply Kd.R_drewN | apply Kd.R_drew)); exact (Q_HO128 h0_)) (Kd.R_base ho23) hb) (fun _ h_ => by first | trivial | exact h_ | exact h_.1))
          have z_HO132 := fun (h0_ : b 25 = true) => (show Kd.R (Kd.int .i64) 3 w22 w.heap.size (fun _ => True) v131 y130 from by first | exact (Kd.R_elder' (by (with_reducible repeat (first | apply Kd.R_alloc | apply Kd.R_drewN | apply Kd.R_drew)); exact (Q_HO132 h0_)) (Kd.R_base ho23) hb) | exact Kd.R_mono (Kd.R_elder' (by (with_reducible repeat (first | apply Kd.R_alloc | apply Kd.R_drewN | apply Kd.R_drew)); exact (Q_HO132 h0_)) (Kd.R_base ho23) hb) (fun _ h_ => by first | trivial | exact h_ | exact h_.1))
          have z_HO136 := fun (h0_ : b 30 = true) => (show Kd.R (Kd.int .i64) 3 w22 w.heap.size (fun _ => True) v135 y134 from by first | exact (Kd.R_elder' (by (with_reducible repeat (first | apply Kd.R_alloc | apply Kd.R_drewN | apply Kd.R_drew)); exact (Q_HO136 h0_)) (Kd.R_base ho23) hb) | exact Kd.R_mono (Kd.R_elder' (by (with_reducible repeat (first | apply Kd.R_alloc | apply Kd.R_drewN | apply Kd.R_drew)); exact (Q_HO136 h0_)) (Kd.R_base ho23) hb) (fun _ h_ => by first | trivial | exact h_ | exact h_.1))
          clear BK114
          clear HB
          have HO120 := n0_
          have BK114 := n1_
          have HB := n2_
          clear n0_ n1_ n2_
          clear hb ho23
          refine hK.out _ _ ⟨v119, v123, v127, v131, v135, (by rw [ha.out]; exact putSel_upk 5 hb_ rfl rfl rfl), (by (with_reducible repeat (first | refine blk_drewN ?_ _ | refine blk_drew ?_ | refine blk_alloc ?_ _)); exact BK114.out), (by repeat (first | (with_reducible first | exact HB.out | apply below_alloc | apply pw_below_drewN | apply below_drew1 | refine below_set ?_ GE114.out) | exact HB.out)), fun _ => (by (with_reducible repeat (first | apply Kd.R_alloc | apply Kd.R_drewN | apply Kd.R_drew)); exact HO120.out), z_HO124, z_HO128, z_HO132, z_HO136⟩
         refine steps_cons ?_ ?_
         ·rintro b a w' ⟨v119, v123, v127, v131, v135, ha, Q_BK114, Q_HB, Q_HO120, Q_HO124, Q_HO128, Q_HO132, Q_HO136⟩ hb_ hon hoff
          refine ⟨_, rfl, fun K hK => ?_⟩
          have e15 : a.tmps[15]? = some (v119) := by rw [ha]; exact putSel_on (e := (7, 15, v119)) 5 rfl rfl (hon 7 (by kernel_rfl)) rfl
          replace ha := Aside0.mk ha
          have BK114 := Aside0.mk Q_BK114
          have HB := Aside0.mk Q_HB
          have HO120 := Aside0.mk (Q_HO120 (hon 7 (by kernel_rfl)))
          obtain ⟨Ao24, co24, eo24⟩ := Kd.R_slice HO120.out
          (first | subst eo24 | (injection eo24 with f1_ f2_ f3_; have f4_ := f1_.symm; have f5_ := f3_.symm; clear f1_ f2_ f3_; subst f4_; subst f5_))
          refine goes_ Try.func17 (by kernel_rfl) rfl #[.int .i64 3, .slice Ao24 y118.length co24] (by rfl) rfl rfl (by first | (simp only [List.map_toArray, List.map_cons, List.map_nil, Act.eval, Array.getD_eq_getD_getElem?, Option.getD_some, e15]; done) | (simp only [List.map_toArray, List.map_cons, List.map_nil, Act.eval, Array.getD_eq_getD_getElem?, Option.getD_some, e15]; rfl)) ?_
          with_reducible refine (xid_field.calls k 3 _ _ y118 t121 _ ?side1 ?side2 A6.out).mono ?_
          (case side1 => repeat (first | exact (Kd.R_reads' HO120.out).2.2 | (with_reducible refine Kd.C_alloc ?_ _) | (with_reducible refine Kd.C_drewN ?_ _) | (with_reducible refine Kd.C_drew ?_)))
          (case side2 => exact (Kd.R_reads' HO120.out).2.1)
          rintro e w25 ⟨rfl, hb⟩
          refine ⟨_, rfl, ?_⟩
          have n0_ := Aside0.mk (Kd.R_below (by (with_reducible repeat (first | apply Kd.R_alloc | apply Kd.R_drewN | apply Kd.R_drew)); exact HO120.out) hb)
          have n1_ := Aside0.mk (blk_below (g := gb114) (o := .cells #[.bool a0_0, .bool a0_1, .int .i64 a0_2, .int .i64 a0_3, .int .i64 a0_4, .int .i64 a0_5] 23 (0, 0)) (by (with_reducible repeat (first | refine blk_drewN ?_ _ | refine blk_drew ?_ | refine blk_alloc ?_ _)); exact BK114.out) hb)
          have n2_ := Aside0.mk (below_step (by repeat (first | (with_reducible first | exact HB.out | apply below_alloc | apply pw_below_drewN | apply below_drew1 | refine below_set ?_ GE114.out) | exact HB.out)) hb)
          have z_HO124 := fun (h0_ : b 15 = true) => (show Kd.R (Kd.int .i64) 3 w25 w.heap.size (fun _ => True) v123 y122 from by first | exact (Kd.R_below (by (with_reducible repeat (first | apply Kd.R_alloc | apply Kd.R_drewN | apply Kd.R_drew)); exact (Q_HO124 h0_)) hb) | exact Kd.R_mono (Kd.R_below (by (with_reducible repeat (first | apply Kd.R_alloc | apply Kd.R_drewN | apply Kd.R_drew)); exact (Q_HO124 h0_)) hb) (fun _ h_ => by first | trivial | exact h_ | exact h_.1))
          have z_HO128 := fun (h0_ : b 20 = true) => (show Kd.R (Kd.int .i64) 3 w25 w.heap.size (fun _ => True) v127 y126 from by first | exact (Kd.R_below (by (with_reducible repeat (first | apply Kd.R_alloc | apply Kd.R_drewN | apply Kd.R_drew)); exact (Q_HO128 h0_)) hb) | exact Kd.R_mono (Kd.R_below (by (with_reducible repeat (first | apply Kd.R_alloc | apply Kd.R_drewN | apply Kd.R_drew)); exact (Q_HO128 h0_)) hb) (fun _ h_ => by first | trivial | exact h_ | exact h_.1))
          have z_HO132 := fun (h0_ : b 25 = true) => (show Kd.R (Kd.int .i64) 3 w25 w.heap.size (fun _ => True) v131 y130 from by first | exact (Kd.R_below (by (with_reducible repeat (first | apply Kd.R_alloc | apply Kd.R_drewN | apply Kd.R_drew)); exact (Q_HO132 h0_)) hb) | exact Kd.R_mono (Kd.R_below (by (with_reducible repeat (first | apply Kd.R_alloc | apply Kd.R_drewN | apply Kd.R_drew)); exact (Q_HO132 h0_)) hb) (fun _ h_ => by first | trivial | exact h_ | exact h_.1))
          have z_HO136 := fun (h0_ : b 30 = true) => (show Kd.R (Kd.int .i64) 3 w25 w.heap.size (fun _ => True) v135 y134 from by first | exact (Kd.R_below (by (with_reducible repeat (first | apply Kd.R_alloc | apply Kd.R_drewN | apply Kd.R_drew)); exact (Q_HO136 h0_)) hb) | exact Kd.R_mono (Kd.R_below (by (with_reducible repeat (first | apply Kd.R_alloc | apply Kd.R_drewN | apply Kd.R_drew)); exact (Q_HO136 h0_)) hb) (fun _ h_ => by first | trivial | exact h_ | exact h_.1))
          clear HO120
          clear BK114
          clear HB
          have HO120 := n0_
          have BK114 := n1_
          have HB := n2_
          clear n0_ n1_ n2_
          (try clear hb)
          (try clear hb2)
          (try clear hk)
          (try clear hi)
          refine hK.out _ _ ⟨.slice Ao24 y118.length co24, v123, v127, v131, v135, (by rw [ha.out]; exact putSel_upk 6 hb_ rfl rfl rfl), (by (with_reducible repeat (first | refine blk_drewN ?_ _ | refine blk_drew ?_ | refine blk_alloc ?_ _)); exact BK114.out), (by repeat (first | (with_reducible first | exact HB.out | apply below_alloc | apply pw_below_drewN | apply below_drew1 | refine below_set ?_ GE114.out) | exact HB.out)), fun _ => (by (with_reducible repeat (first | apply Kd.R_alloc | apply Kd.R_drewN | apply Kd.R_drew)); exact HO120.out), z_HO124, z_HO128, z_HO132, z_HO136⟩
         refine steps_cons ?_ ?_
         ·rintro b a w' ⟨v119, v123, v127, v131, v135, ha, Q_BK114, Q_HB, Q_HO120, Q_HO124, Q_HO128, Q_HO132, Q_HO136⟩ hb_ hon hoff
          refine ⟨_, rfl, fun K hK => ?_⟩
          have e17 : a.tmps[17]? = some (.pointer (some ⟨gb114, 2, none⟩)) := by rw [ha]; exact (putSel_off rfl).trans rfl
          replace ha := Aside0.mk ha
          have BK114 := Aside0.mk Q_BK114
          have HB := Aside0.mk Q_HB
          have hc0_ : w'.cell? ⟨gb114, 0, none⟩ = some (.bool a0_0) := (blk_cell BK114.out 0).trans rfl
          have hc1_ : w'.cell? ⟨gb114, 1, none⟩ = some (.bool a0_1) := (blk_cell BK114.out 1).trans rfl
          have hc2_ : w'.cell? ⟨gb114, 2, none⟩ = some (.int .i64 a0_2) := (blk_cell BK114.out 2).trans rfl
          have hc3_ : w'.cell? ⟨gb114, 3, none⟩ = some (.int .i64 a0_3) := (blk_cell BK114.out 3).trans rfl
          have hc4_ : w'.cell? ⟨gb114, 4, none⟩ = some (.int .i64 a0_4) := (blk_cell BK114.out 4).trans rfl
          have hc5_ : w'.cell? ⟨gb114, 5, none⟩ = some (.int .i64 a0_5) := (blk_cell BK114.out 5).trans rfl
          refine value_ (w1 := w') (v := .int .i64 a0_2) (by rfl) rfl ?_ ?_
          ·go_simp
           (try simp only [i64_w])
           try rfl
           all_goals (try ((try simp only [ByteArray.size_append] at *); omega))
          refine hK.out _ _ ⟨v119, v123, v127, v131, v135, (by rw [ha.out]; exact putSel_upk 7 hb_ rfl rfl rfl), Q_BK114, Q_HB, Q_HO120, fun h0_ => absurd ((hoff 15 (by kernel_rfl)).symm.trans h0_) (by decide), Q_HO128, Q_HO132, Q_HO136⟩
         refine steps_cons ?_ ?_
         ·rintro b a w' ⟨v119, v123, v127, v131, v135, ha, Q_BK114, Q_HB, Q_HO120, Q_HO124, Q_HO128, Q_HO132, Q_HO136⟩ hb_ hon hoff
          refine ⟨_, rfl, fun K hK => ?_⟩
          have e18 : a.tmps[18]? = some (.int .i64 a0_2) := by rw [ha]; exact putSel_on (e := (10, 18, .int .i64 a0_2)) 7 rfl rfl (hon 10 (by kernel_rfl)) rfl
          replace ha := Aside0.mk ha
          have BK114 := Aside0.mk Q_BK114
          have HB := Aside0.mk Q_HB
          refine value_ (w1 := w') (v := .int .i64 (a0_2 / 256)) (by rfl) rfl ?_ ?_
          ·go_simp
           (try simp only [i64_w])
           try rfl
           all_goals (try ((try simp only [ByteArray.size_append] at *); omega))
          refine hK.out _ _ ⟨v119, v123, v127, v131, v135, (by rw [ha.out]; exact putSel_upk 8 hb_ rfl rfl rfl), Q_BK114, Q_HB, Q_HO120, fun h0_ => absurd ((hoff 15 (by kernel_rfl)).symm.trans h0_) (by decide), Q_HO128, Q_HO132, Q_HO136⟩
         refine steps_cons ?_ ?_
         ·rintro b a w' ⟨v119, v123, v127, v131, v135, ha, Q_BK114, Q_HB, Q_HO120, Q_HO124, Q_HO128, Q_HO132, Q_HO136⟩ hb_ hon hoff
          refine ⟨_, rfl, fun K hK => ?_⟩
          have e20 : a.tmps[20]? = some (.pointer (some ⟨gb114, 2, none⟩)) := by rw [ha]; exact (putSel_off rfl).trans rfl
          replace ha := Aside0.mk ha
          have BK114 := Aside0.mk Q_BK114
          have HB := Aside0.mk Q_HB
          have hc0_ : w'.cell? ⟨gb114, 0, none⟩ = some (.bool a0_0) := (blk_cell BK114.out 0).trans rfl
          have hc1_ : w'.cell? ⟨gb114, 1, none⟩ = some (.bool a0_1) := (blk_cell BK114.out 1).trans rfl
          have hc2_ : w'.cell? ⟨gb114, 2, none⟩ = some (.int .i64 a0_2) := (blk_cell BK114.out 2).trans rfl
          have hc3_ : w'.cell? ⟨gb114, 3, none⟩ = some (.int .i64 a0_3) := (blk_cell BK114.out 3).trans rfl
          have hc4_ : w'.cell? ⟨gb114, 4, none⟩ = some (.int .i64 a0_4) := (blk_cell BK114.out 4).trans rfl
          have hc5_ : w'.cell? ⟨gb114, 5, none⟩ = some (.int .i64 a0_5) := (blk_cell BK114.out 5).trans rfl
          refine value_ (w1 := w') (v := .int .i64 a0_2) (by rfl) rfl ?_ ?_
          ·go_simp
           (try simp only [i64_w])
           try rfl
           all_goals (try ((try simp only [ByteArray.size_append] at *); omega))
          refine hK.out _ _ ⟨v119, v123, v127, v131, v135, (by rw [ha.out]; exact putSel_upk 9 hb_ rfl rfl rfl), Q_BK114, Q_HB, Q_HO120, fun h0_ => absurd ((hoff 15 (by kernel_rfl)).symm.trans h0_) (by decide), Q_HO128, Q_HO132, Q_HO136⟩
         refine steps_cons ?_ ?_
         ·rintro b a w' ⟨v119, v123, v127, v131, v135, ha, Q_BK114, Q_HB, Q_HO120, Q_HO124, Q_HO128, Q_HO132, Q_HO136⟩ hb_ hon hoff
          refine ⟨_, rfl, fun K hK => ?_⟩
          have e21 : a.tmps[21]? = some (.int .i64 a0_2) := by rw [ha]; exact putSel_on (e := (13, 21, .int .i64 a0_2)) 9 rfl rfl (hon 13 (by kernel_rfl)) rfl
          replace ha := Aside0.mk ha
          have BK114 := Aside0.mk Q_BK114
          have HB := Aside0.mk Q_HB
          refine value_ (w1 := w') (v := .int .i64 (Go.bits .and .i64 a0_2 255)) (by rfl) rfl ?_ ?_
          ·go_simp
           (try simp only [i64_w])
           try rfl
           all_goals (try ((try simp only [ByteArray.size_append] at *); omega))
          refine hK.out _ _ ⟨v119, v123, v127, v131, v135, (by rw [ha.out]; exact putSel_upk 10 hb_ rfl rfl rfl), Q_BK114, Q_HB, Q_HO120, fun h0_ => absurd ((hoff 15 (by kernel_rfl)).symm.trans h0_) (by decide), Q_HO128, Q_HO132, Q_HO136⟩
         refine steps_cons ?_ ?_
         ·rintro b a w' ⟨v119, v123, v127, v131, v135, ha, Q_BK114, Q_HB, Q_HO120, Q_HO124, Q_HO128, Q_HO132, Q_HO136⟩ hb_ hon hoff
          refine ⟨_, rfl, fun K hK => ?_⟩
          have e19 : a.tmps[19]? = some (.int .i64 (a0_2 / 256)) := by rw [ha]; exact putSel_on (e := (11, 19, .int .i64 (a0_2 / 256))) 8 rfl rfl (hon 11 (by kernel_rfl)) rfl
          have e22 : a.tmps[22]? = some (.int .i64 (Go.bits .and .i64 a0_2 255)) := by rw [ha]; exact putSel_on (e := (14, 22, .int .i64 (Go.bits .and .i64 a0_2 255))) 10 rfl rfl (hon 14 (by kernel_rfl)) rfl
          replace ha := Aside0.mk ha
          have BK114 := Aside0.mk Q_BK114
          have HB := Aside0.mk Q_HB
          refine Kd.R_lit_step (Kd.int .i64) _ 3 ?hg (N := 23) ?hd (xs := ([a0_2 / 256, Go.bits .and .i64 a0_2 255] : List Int)) (inner := [.int .i64 (a0_2 / 256), .int .i64 (Go.bits .and .i64 a0_2 255)]) (ok := fun _ => True) (okp := fun _ => True) ?hr ?hp (fun _ hk => hk) trivial (Below.refl _ _) (Nat.le_refl _) (by simp) ?_; (case hd => rfl); (case hg => rfl); (case hr => first | (go_simp; done) | (go_simp; rfl)); (case hp => exact (Reps.one (show Kd.M (Kd.int .i64) _ _ _ (a0_2 / 256) [.int .i64 (a0_2 / 256)] from rfl) (Reps.one (show Kd.M (Kd.int .i64) _ _ _ (Go.bits .and .i64 a0_2 255) [.int .i64 (Go.bits .and .i64 a0_2 255)] from rfl) (Reps.none _ _))))
          intro v123 w21 ho22 hb hg_ hnew_
          clear hg_ hnew_
          (first | rw [← Ny122.out] at ho22 | (simp only [Int.reduceToNat] at ho22; rw [← Ny122.out] at ho22))
          have n0_ := Aside0.mk (Kd.R_lower ho22 (below_size (by repeat (first | (with_reducible first | exact HB.out | apply below_alloc | apply pw_below_drewN | apply below_drew1 | refine below_set ?_ GE114.out) | exact HB.out))))
          have n1_ := Aside0.mk (blk_below (g := gb114) (o := .cells #[.bool a0_0, .bool a0_1, .int .i64 a0_2, .int .i64 a0_3, .int .i64 a0_4, .int .i64 a0_5] 23 (0, 0)) (by (with_reducible repeat (first | refine blk_drewN ?_ _ | refine blk_drew ?_ | refine blk_alloc ?_ _)); exact BK114.out) hb)
          have n2_ := Aside0.mk (below_step (by repeat (first | (with_reducible first | exact HB.out | apply below_alloc | apply pw_below_drewN | apply below_drew1 | refine below_set ?_ GE114.out) | exact HB.out)) hb)
          have z_HO120 := fun (h0_ : b 7 = true) => (show Kd.R (Kd.int .i64) 3 w21 w.heap.size (fun _ => True) v119 y118 from by first | exact (Kd.R_elder' (by (with_reducible repeat (first | apply Kd.R_alloc | apply Kd.R_drewN | apply Kd.R_drew)); exact (Q_HO120 h0_)) (Kd.R_base ho22) hb) | exact Kd.R_mono (Kd.R_elder' (by (with_reducible repeat (first | apply Kd.R_alloc | apply Kd.R_drewN | apply Kd.R_drew)); exact (Q_HO120 h0_)) (Kd.R_base ho22) hb) (fun _ h_ => by first | trivial | exact h_ | exact h_.1))
          have z_HO128 := fun (h0_ : b 20 = true) => (show Kd.R (Kd.int .i64) 3 w21 w.heap.size (fun _ => True) v127 y126 from by first | exact (Kd.R_elder' (by (with_reducible repeat (first | apply Kd.R_alloc | apply Kd.R_drewN | apply Kd.R_drew)); exact (Q_HO128 h0_)) (Kd.R_base ho22) hb) | exact Kd.R_mono (Kd.R_elder' (by (with_reducible repeat (first | apply Kd.R_alloc | apply Kd.R_drewN | apply Kd.R_drew)); exact (Q_HO128 h0_)) (Kd.R_base ho22) hb) (fun _ h_ => by first | trivial | exact h_ | exact h_.1))
          have z_HO132 := fun (h0_ : b 25 = true) => (show Kd.R (Kd.int .i64) 3 w21 w.heap.size (fun _ => True) v131 y130 from by first | exact (Kd.R_elder' (by (with_reducible repeat (first | apply Kd.R_alloc | apply Kd.R_drewN | apply Kd.R_drew)); exact (Q_HO132 h0_)) (Kd.R_base ho22) hb) | exact Kd.R_mono (Kd.R_elder' (by (with_reducible repeat (first | apply Kd.R_alloc | apply Kd.R_drewN | apply Kd.R_drew)); exact (Q_HO132 h0_)) (Kd.R_base ho22) hb) (fun _ h_ => by first | trivial | exact h_ | exact h_.1))
          have z_HO136 := fun (h0_ : b 30 = true) => (show Kd.R (Kd.int .i64) 3 w21 w.heap.size (fun _ => True) v135 y134 from by first | exact (Kd.R_elder' (by (with_reducible repeat (first | apply Kd.R_alloc | apply Kd.R_drewN | apply Kd.R_drew)); exact (Q_HO136 h0_)) (Kd.R_base ho22) hb) | exact Kd.R_mono (Kd.R_elder' (by (with_reducible repeat (first | apply Kd.R_alloc | apply Kd.R_drewN | apply Kd.R_drew)); exact (Q_HO136 h0_)) (Kd.R_base ho22) hb) (fun _ h_ => by first | trivial | exact h_ | exact h_.1))
          clear BK114
          clear HB
          have HO124 := n0_
          have BK114 := n1_
          have HB := n2_
          clear n0_ n1_ n2_
          clear hb ho22
          refine hK.out _ _ ⟨v119, v123, v127, v131, v135, (by rw [ha.out]; exact putSel_upk 11 hb_ rfl rfl rfl), (by (with_reducible repeat (first | refine blk_drewN ?_ _ | refine blk_drew ?_ | refine blk_alloc ?_ _)); exact BK114.out), (by repeat (first | (with_reducible first | exact HB.out | apply below_alloc | apply pw_below_drewN | apply below_drew1 | refine below_set ?_ GE114.out) | exact HB.out)), z_HO120, fun _ => (by (with_reducible repeat (first | apply Kd.R_alloc | apply Kd.R_drewN | apply Kd.R_drew)); exact HO124.out), z_HO128, z_HO132, z_HO136⟩
         refine steps_cons ?_ ?_
         ·rintro b a w' ⟨v119, v123, v127, v131, v135, ha, Q_BK114, Q_HB, Q_HO120, Q_HO124, Q_HO128, Q_HO132, Q_HO136⟩ hb_ hon hoff
          refine ⟨_, rfl, fun K hK => ?_⟩
          have e23 : a.tmps[23]? = some (v123) := by rw [ha]; exact putSel_on (e := (15, 23, v123)) 11 rfl rfl (hon 15 (by kernel_rfl)) rfl
          replace ha := Aside0.mk ha
          have BK114 := Aside0.mk Q_BK114
          have HB := Aside0.mk Q_HB
          have HO120 := Aside0.mk (Q_HO120 (hon 7 (by kernel_rfl)))
          have HO124 := Aside0.mk (Q_HO124 (hon 15 (by kernel_rfl)))
          obtain ⟨Ao28, co28, eo28⟩ := Kd.R_slice HO124.out
          (first | subst eo28 | (injection eo28 with f1_ f2_ f3_; have f4_ := f1_.symm; have f5_ := f3_.symm; clear f1_ f2_ f3_; subst f4_; subst f5_))
          refine goes_ Try.func17 (by kernel_rfl) rfl #[.int .i64 6, .slice Ao28 y122.length co28] (by rfl) rfl rfl (by first | (simp only [List.map_toArray, List.map_cons, List.map_nil, Act.eval, Array.getD_eq_getD_getElem?, Option.getD_some, e23]; done) | (simp only [List.map_toArray, List.map_cons, List.map_nil, Act.eval, Array.getD_eq_getD_getElem?, Option.getD_some, e23]; rfl)) ?_
          with_reducible refine (xid_field.calls k 6 _ _ y122 t125 _ ?side1 ?side2 A7.out).mono ?_
          (case side1 => repeat (first | exact (Kd.R_reads' HO124.out).2.2 | (with_reducible refine Kd.C_alloc ?_ _) | (with_reducible refine Kd.C_drewN ?_ _) | (with_reducible refine Kd.C_drew ?_)))
          (case side2 => exact (Kd.R_reads' HO124.out).2.1)
          rintro e w29 ⟨rfl, hb⟩
          refine ⟨_, rfl, ?_⟩
          have n0_ := Aside0.mk (Kd.R_below (by (with_reducible repeat (first | apply Kd.R_alloc | apply Kd.R_drewN | apply Kd.R_drew)); exact HO120.out) hb)
          have n1_ := Aside0.mk (Kd.R_below (by (with_reducible repeat (first | apply Kd.R_alloc | apply Kd.R_drewN | apply Kd.R_drew)); exact HO124.out) hb)
          have n2_ := Aside0.mk (blk_below (g := gb114) (o := .cells #[.bool a0_0, .bool a0_1, .int .i64 a0_2, .int .i64 a0_3, .int .i64 a0_4, .int .i64 a0_5] 23 (0, 0)) (by (with_reducible repeat (first | refine blk_drewN ?_ _ | refine blk_drew ?_ | refine blk_alloc ?_ _)); exact BK114.out) hb)
          have n3_ := Aside0.mk (below_step (by repeat (first | (with_reducible first | exact HB.out | apply below_alloc | apply pw_below_drewN | apply below_drew1 | refine below_set ?_ GE114.out) | exact HB.out)) hb)
          have z_HO128 := fun (h0_ : b 20 = true) => (show Kd.R (Kd.int .i64) 3 w29 w.heap.size (fun _ => True) v127 y126 from by first | exact (Kd.R_below (by (with_reducible repeat (first | apply Kd.R_alloc | apply Kd.R_drewN | apply Kd.R_drew)); exact (Q_HO128 h0_)) hb) | exact Kd.R_mono (Kd.R_below (by (with_reducible repeat (first | apply Kd.R_alloc | apply Kd.R_drewN | apply Kd.R_drew)); exact (Q_HO128 h0_)) hb) (fun _ h_ => by first | trivial | exact h_ | exact h_.1))
          have z_HO132 := fun (h0_ : b 25 = true) => (show Kd.R (Kd.int .i64) 3 w29 w.heap.size (fun _ => True) v131 y130 from by first | exact (Kd.R_below (by (with_reducible repeat (first | apply Kd.R_alloc | apply Kd.R_drewN | apply Kd.R_drew)); exact (Q_HO132 h0_)) hb) | exact Kd.R_mono (Kd.R_below (by (with_reducible repeat (first | apply Kd.R_alloc | apply Kd.R_drewN | apply Kd.R_drew)); exact (Q_HO132 h0_)) hb) (fun _ h_ => by first | trivial | exact h_ | exact h_.1))
          have z_HO136 := fun (h0_ : b 30 = true) => (show Kd.R (Kd.int .i64) 3 w29 w.heap.size (fun _ => True) v135 y134 from by first | exact (Kd.R_below (by (with_reducible repeat (first | apply Kd.R_alloc | apply Kd.R_drewN | apply Kd.R_drew)); exact (Q_HO136 h0_)) hb) | exact Kd.R_mono (Kd.R_below (by (with_reducible repeat (first | apply Kd.R_alloc | apply Kd.R_drewN | apply Kd.R_drew)); exact (Q_HO136 h0_)) hb) (fun _ h_ => by first | trivial | exact h_ | exact h_.1))
          clear HO120
          clear HO124
          clear BK114
          clear HB
          have HO120 := n0_
          have HO124 := n1_
          have BK114 := n2_
          have HB := n3_
          clear n0_ n1_ n2_ n3_
          (try clear hb)
          (try clear hb2)
          (try clear hk)
          (try clear hi)
          refine hK.out _ _ ⟨v119, .slice Ao28 y122.length co28, v127, v131, v135, (by rw [ha.out]; exact putSel_upk 12 hb_ rfl rfl rfl), (by (with_reducible repeat (first | refine blk_drewN ?_ _ | refine blk_drew ?_ | refine blk_alloc ?_ _)); exact BK114.out), (by repeat (first | (with_reducible first | exact HB.out | apply below_alloc | apply pw_below_drewN | apply below_drew1 | refine below_set ?_ GE114.out) | exact HB.out)), fun _ => (by (with_reducible repeat (first | apply Kd.R_alloc | apply Kd.R_drewN | apply Kd.R_drew)); exact HO120.out), fun _ => (by (with_reducible repeat (first | apply Kd.R_alloc | apply Kd.R_drewN | apply Kd.R_drew)); exact HO124.out), z_HO128, z_HO132, z_HO136⟩
         refine steps_cons ?_ ?_
         ·rintro b a w' ⟨v119, v123, v127, v131, v135, ha, Q_BK114, Q_HB, Q_HO120, Q_HO124, Q_HO128, Q_HO132, Q_HO136⟩ hb_ hon hoff
          refine ⟨_, rfl, fun K hK => ?_⟩
          have e16 : a.tmps[16]? = some (.string t121) := by rw [ha]; exact putSel_on (e := (8, 16, .string t121)) 6 rfl rfl (hon 8 (by kernel_rfl)) rfl
          have e24 : a.tmps[24]? = some (.string t125) := by rw [ha]; exact putSel_on (e := (16, 24, .string t125)) 12 rfl rfl (hon 16 (by kernel_rfl)) rfl
          replace ha := Aside0.mk ha
          have BK114 := Aside0.mk Q_BK114
          have HB := Aside0.mk Q_HB
          have HO120 := Aside0.mk (Q_HO120 (hon 7 (by kernel_rfl)))
          have HO124 := Aside0.mk (Q_HO124 (hon 15 (by kernel_rfl)))
          refine value_ (w1 := w') (v := .string (t121 ++ t125)) (by rfl) rfl ?_ ?_
          ·go_simp
           (try simp only [i64_w])
           try rfl
           all_goals (try ((try simp only [ByteArray.size_append] at *); omega))
          refine hK.out _ _ ⟨v119, v123, v127, v131, v135, (by rw [ha.out]; exact putSel_upk 13 hb_ rfl rfl rfl), Q_BK114, Q_HB, Q_HO120, Q_HO124, Q_HO128, Q_HO132, Q_HO136⟩
         refine steps_cons ?_ ?_
         ·rintro b a w' ⟨v119, v123, v127, v131, v135, ha, Q_BK114, Q_HB, Q_HO120, Q_HO124, Q_HO128, Q_HO132, Q_HO136⟩ hb_ hon hoff
          refine ⟨_, rfl, fun K hK => ?_⟩
          have e26 : a.tmps[26]? = some (.pointer (some ⟨gb114, 3, none⟩)) := by rw [ha]; exact (putSel_off rfl).trans rfl
          replace ha := Aside0.mk ha
          have BK114 := Aside0.mk Q_BK114
          have HB := Aside0.mk Q_HB
          have hc0_ : w'.cell? ⟨gb114, 0, none⟩ = some (.bool a0_0) := (blk_cell BK114.out 0).trans rfl
          have hc1_ : w'.cell? ⟨gb114, 1, none⟩ = some (.bool a0_1) := (blk_cell BK114.out 1).trans rfl
          have hc2_ : w'.cell? ⟨gb114, 2, none⟩ = some (.int .i64 a0_2) := (blk_cell BK114.out 2).trans rfl
          have hc3_ : w'.cell? ⟨gb114, 3, none⟩ = some (.int .i64 a0_3) := (blk_cell BK114.out 3).trans rfl
          have hc4_ : w'.cell? ⟨gb114, 4, none⟩ = some (.int .i64 a0_4) := (blk_cell BK114.out 4).trans rfl
          have hc5_ : w'.cell? ⟨gb114, 5, none⟩ = some (.int .i64 a0_5) := (blk_cell BK114.out 5).trans rfl
          refine value_ (w1 := w') (v := .int .i64 a0_3) (by rfl) rfl ?_ ?_
          ·go_simp
           (try simp only [i64_w])
           try rfl
           all_goals (try ((try simp only [ByteArray.size_append] at *); omega))
          refine hK.out _ _ ⟨v119, v123, v127, v131, v135, (by rw [ha.out]; exact putSel_upk 14 hb_ rfl rfl rfl), Q_BK114, Q_HB, Q_HO120, Q_HO124, fun h0_ => absurd ((hoff 20 (by kernel_rfl)).symm.trans h0_) (by decide), Q_HO132, Q_HO136⟩
         refine steps_cons ?_ ?_
         ·rintro b a w' ⟨v119, v123, v127, v131, v135, ha, Q_BK114, Q_HB, Q_HO120, Q_HO124, Q_HO128, Q_HO132, Q_HO136⟩ hb_ hon hoff
          refine ⟨_, rfl, fun K hK => ?_⟩
          have e27 : a.tmps[27]? = some (.int .i64 a0_3) := by rw [ha]; exact putSel_on (e := (19, 27, .int .i64 a0_3)) 14 rfl rfl (hon 19 (by kernel_rfl)) rfl
          replace ha := Aside0.mk ha
          have BK114 := Aside0.mk Q_BK114
          have HB := Aside0.mk Q_HB
          refine Kd.R_lit_step (Kd.int .i64) _ 3 ?hg (N := 28) ?hd (xs := ([a0_3] : List Int)) (inner := [.int .i64 a0_3]) (ok := fun _ => True) (okp := fun _ => True) ?hr ?hp (fun _ hk => hk) trivial (Below.refl _ _) (Nat.le_refl _) (by simp) ?_; (case hd => rfl); (case hg => rfl); (case hr => first | (go_simp; done) | (go_simp; rfl)); (case hp => exact (Reps.one (show Kd.M (Kd.int .i64) _ _ _ a0_3 [.int .i64 a0_3] from rfl) (Reps.none _ _)))
          intro v127 w21 ho22 hb hg_ hnew_
          clear hg_ hnew_
          (first | rw [← Ny126.out] at ho22 | (simp only [Int.reduceToNat] at ho22; rw [← Ny126.out] at ho22))
          have n0_ := Aside0.mk (Kd.R_lower ho22 (below_size (by repeat (first | (with_reducible first | exact HB.out | apply below_alloc | apply pw_below_drewN | apply below_drew1 | refine below_set ?_ GE114.out) | exact HB.out))))
          have n1_ := Aside0.mk (blk_below (g := gb114) (o := .cells #[.bool a0_0, .bool a0_1, .int .i64 a0_2, .int .i64 a0_3, .int .i64 a0_4, .int .i64 a0_5] 23 (0, 0)) (by (with_reducible repeat (first | refine blk_drewN ?_ _ | refine blk_drew ?_ | refine blk_alloc ?_ _)); exact BK114.out) hb)
          have n2_ := Aside0.mk (below_step (by repeat (first | (with_reducible first | exact HB.out | apply below_alloc | apply pw_below_drewN | apply below_drew1 | refine below_set ?_ GE114.out) | exact HB.out)) hb)
          have z_HO120 := fun (h0_ : b 7 = true) => (show Kd.R (Kd.int .i64) 3 w21 w.heap.size (fun _ => True) v119 y118 from by first | exact (Kd.R_elder' (by (with_reducible repeat (first | apply Kd.R_alloc | apply Kd.R_drewN | apply Kd.R_drew)); exact (Q_HO120 h0_)) (Kd.R_base ho22) hb) | exact Kd.R_mono (Kd.R_elder' (by (with_reducible repeat (first | apply Kd.R_alloc | apply Kd.R_drewN | apply Kd.R_drew)); exact (Q_HO120 h0_)) (Kd.R_base ho22) hb) (fun _ h_ => by first | trivial | exact h_ | exact h_.1))
          have z_HO124 := fun (h0_ : b 15 = true) => (show Kd.R (Kd.int .i64) 3 w21 w.heap.size (fun _ => True) v123 y122 from by first | exact (Kd.R_elder' (by (with_reducible repeat (first | apply Kd.R_alloc | apply Kd.R_drewN | apply Kd.R_drew)); exact (Q_HO124 h0_)) (Kd.R_base ho22) hb) | exact Kd.R_mono (Kd.R_elder' (by (with_reducible repeat (first | apply Kd.R_alloc | apply Kd.R_drewN | apply Kd.R_drew)); exact (Q_HO124 h0_)) (Kd.R_base ho22) hb) (fun _ h_ => by first | trivial | exact h_ | exact h_.1))
          have z_HO132 := fun (h0_ : b 25 = true) => (show Kd.R (Kd.int .i64) 3 w21 w.heap.size (fun _ => True) v131 y130 from by first | exact (Kd.R_elder' (by (with_reducible repeat (first | apply Kd.R_alloc | apply Kd.R_drewN | apply Kd.R_drew)); exact (Q_HO132 h0_)) (Kd.R_base ho22) hb) | exact Kd.R_mono (Kd.R_elder' (by (with_reducible repeat (first | apply Kd.R_alloc | apply Kd.R_drewN | apply Kd.R_drew)); exact (Q_HO132 h0_)) (Kd.R_base ho22) hb) (fun _ h_ => by first | trivial | exact h_ | exact h_.1))
          have z_HO136 := fun (h0_ : b 30 = true) => (show Kd.R (Kd.int .i64) 3 w21 w.heap.size (fun _ => True) v135 y134 from by first | exact (Kd.R_elder' (by (with_reducible repeat (first | apply Kd.R_alloc | apply Kd.R_drewN | apply Kd.R_drew)); exact (Q_HO136 h0_)) (Kd.R_base ho22) hb) | exact Kd.R_mono (Kd.R_elder' (by (with_reducible repeat (first | apply Kd.R_alloc | apply Kd.R_drewN | apply Kd.R_drew)); exact (Q_HO136 h0_)) (Kd.R_base ho22) hb) (fun _ h_ => by first | trivial | exact h_ | exact h_.1))
          clear BK114
          clear HB
          have HO128 := n0_
          have BK114 := n1_
          have HB := n2_
          clear n0_ n1_ n2_
          clear hb ho22
          refine hK.out _ _ ⟨v119, v123, v127, v131, v135, (by rw [ha.out]; exact putSel_upk 15 hb_ rfl rfl rfl), (by (with_reducible repeat (first | refine blk_drewN ?_ _ | refine blk_drew ?_ | refine blk_alloc ?_ _)); exact BK114.out), (by repeat (first | (with_reducible first | exact HB.out | apply below_alloc | apply pw_below_drewN | apply below_drew1 | refine below_set ?_ GE114.out) | exact HB.out)), z_HO120, z_HO124, fun _ => (by (with_reducible repeat (first | apply Kd.R_alloc | apply Kd.R_drewN | apply Kd.R_drew)); exact HO128.out), z_HO132, z_HO136⟩
         refine steps_cons ?_ ?_
         ·rintro b a w' ⟨v119, v123, v127, v131, v135, ha, Q_BK114, Q_HB, Q_HO120, Q_HO124, Q_HO128, Q_HO132, Q_HO136⟩ hb_ hon hoff
          refine ⟨_, rfl, fun K hK => ?_⟩
          have e28 : a.tmps[28]? = some (v127) := by rw [ha]; exact putSel_on (e := (20, 28, v127)) 15 rfl rfl (hon 20 (by kernel_rfl)) rfl
          replace ha := Aside0.mk ha
          have BK114 := Aside0.mk Q_BK114
          have HB := Aside0.mk Q_HB
          have HO120 := Aside0.mk (Q_HO120 (hon 7 (by kernel_rfl)))
          have HO124 := Aside0.mk (Q_HO124 (hon 15 (by kernel_rfl)))
          have HO128 := Aside0.mk (Q_HO128 (hon 20 (by kernel_rfl)))
          obtain ⟨Ao32, co32, eo32⟩ := Kd.R_slice HO128.out
          (first | subst eo32 | (injection eo32 with f1_ f2_ f3_; have f4_ := f1_.symm; have f5_ := f3_.symm; clear f1_ f2_ f3_; subst f4_; subst f5_))
          refine goes_ Try.func17 (by kernel_rfl) rfl #[.int .i64 8, .slice Ao32 y126.length co32] (by rfl) rfl rfl (by first | (simp only [List.map_toArray, List.map_cons, List.map_nil, Act.eval, Array.getD_eq_getD_getElem?, Option.getD_some, e28]; done) | (simp only [List.map_toArray, List.map_cons, List.map_nil, Act.eval, Array.getD_eq_getD_getElem?, Option.getD_some, e28]; rfl)) ?_
          with_reducible refine (xid_field.calls k 8 _ _ y126 t129 _ ?side1 ?side2 A9.out).mono ?_
          (case side1 => repeat (first | exact (Kd.R_reads' HO128.out).2.2 | (with_reducible refine Kd.C_alloc ?_ _) | (with_reducible refine Kd.C_drewN ?_ _) | (with_reducible refine Kd.C_drew ?_)))
          (case side2 => exact (Kd.R_reads' HO128.out).2.1)
          rintro e w33 ⟨rfl, hb⟩
          refine ⟨_, rfl, ?_⟩
          have n0_ := Aside0.mk (Kd.R_below (by (with_reducible repeat (first | apply Kd.R_alloc | apply Kd.R_drewN | apply Kd.R_drew)); exact HO120.out) hb)
          have n1_ := Aside0.mk (Kd.R_below (by (with_reducible repeat (first | apply Kd.R_alloc | apply Kd.R_drewN | apply Kd.R_drew)); exact HO124.out) hb)
          have n2_ := Aside0.mk (Kd.R_below (by (with_reducible repeat (first | apply Kd.R_alloc | apply Kd.R_drewN | apply Kd.R_drew)); exact HO128.out) hb)
          have n3_ := Aside0.mk (blk_below (g := gb114) (o := .cells #[.bool a0_0, .bool a0_1, .int .i64 a0_2, .int .i64 a0_3, .int .i64 a0_4, .int .i64 a0_5] 23 (0, 0)) (by (with_reducible repeat (first | refine blk_drewN ?_ _ | refine blk_drew ?_ | refine blk_alloc ?_ _)); exact BK114.out) hb)
          have n4_ := Aside0.mk (below_step (by repeat (first | (with_reducible first | exact HB.out | apply below_alloc | apply pw_below_drewN | apply below_drew1 | refine below_set ?_ GE114.out) | exact HB.out)) hb)
          have z_HO132 := fun (h0_ : b 25 = true) => (show Kd.R (Kd.int .i64) 3 w33 w.heap.size (fun _ => True) v131 y130 from by first | exact (Kd.R_below (by (with_reducible repeat (first | apply Kd.R_alloc | apply Kd.R_drewN | apply Kd.R_drew)); exact (Q_HO132 h0_)) hb) | exact Kd.R_mono (Kd.R_below (by (with_reducible repeat (first | apply Kd.R_alloc | apply Kd.R_drewN | apply Kd.R_drew)); exact (Q_HO132 h0_)) hb) (fun _ h_ => by first | trivial | exact h_ | exact h_.1))
          have z_HO136 := fun (h0_ : b 30 = true) => (show Kd.R (Kd.int .i64) 3 w33 w.heap.size (fun _ => True) v135 y134 from by first | exact (Kd.R_below (by (with_reducible repeat (first | apply Kd.R_alloc | apply Kd.R_drewN | apply Kd.R_drew)); exact (Q_HO136 h0_)) hb) | exact Kd.R_mono (Kd.R_below (by (with_reducible repeat (first | apply Kd.R_alloc | apply Kd.R_drewN | apply Kd.R_drew)); exact (Q_HO136 h0_)) hb) (fun _ h_ => by first | trivial | exact h_ | exact h_.1))
          clear HO120
          clear HO124
          clear HO128
          clear BK114
          clear HB
          have HO120 := n0_
          have HO124 := n1_
          have HO128 := n2_
          have BK114 := n3_
          have HB := n4_
          clear n0_ n1_ n2_ n3_ n4_
          (try clear hb)
          (try clear hb2)
          (try clear hk)
          (try clear hi)
          refine hK.out _ _ ⟨v119, v123, .slice Ao32 y126.length co32, v131, v135, (by rw [ha.out]; exact putSel_upk 16 hb_ rfl rfl rfl), (by (with_reducible repeat (first | refine blk_drewN ?_ _ | refine blk_drew ?_ | refine blk_alloc ?_ _)); exact BK114.out), (by repeat (first | (with_reducible first | exact HB.out | apply below_alloc | apply pw_below_drewN | apply below_drew1 | refine below_set ?_ GE114.out) | exact HB.out)), fun _ => (by (with_reducible repeat (first | apply Kd.R_alloc | apply Kd.R_drewN | apply Kd.R_drew)); exact HO120.out), fun _ => (by (with_reducible repeat (first | apply Kd.R_alloc | apply Kd.R_drewN | apply Kd.R_drew)); exact HO124.out), fun _ => (by (with_reducible repeat (first | apply Kd.R_alloc | apply Kd.R_drewN | apply Kd.R_drew)); exact HO128.out), z_HO132, z_HO136⟩
         refine steps_cons ?_ ?_
         ·rintro b a w' ⟨v119, v123, v127, v131, v135, ha, Q_BK114, Q_HB, Q_HO120, Q_HO124, Q_HO128, Q_HO132, Q_HO136⟩ hb_ hon hoff
          refine ⟨_, rfl, fun K hK => ?_⟩
          have e25 : a.tmps[25]? = some (.string (t121 ++ t125)) := by rw [ha]; exact putSel_on (e := (17, 25, .string (t121 ++ t125))) 13 rfl rfl (hon 17 (by kernel_rfl)) rfl
          have e29 : a.tmps[29]? = some (.string t129) := by rw [ha]; exact putSel_on (e := (21, 29, .string t129)) 16 rfl rfl (hon 21 (by kernel_rfl)) rfl
          replace ha := Aside0.mk ha
          have BK114 := Aside0.mk Q_BK114
          have HB := Aside0.mk Q_HB
          have HO120 := Aside0.mk (Q_HO120 (hon 7 (by kernel_rfl)))
          have HO124 := Aside0.mk (Q_HO124 (hon 15 (by kernel_rfl)))
          have HO128 := Aside0.mk (Q_HO128 (hon 20 (by kernel_rfl)))
          refine value_ (w1 := w') (v := .string ((t121 ++ t125) ++ t129)) (by rfl) rfl ?_ ?_
          ·go_simp
           (try simp only [i64_w])
           try rfl
           all_goals (try ((try simp only [ByteArray.size_append] at *); omega))
          refine hK.out _ _ ⟨v119, v123, v127, v131, v135, (by rw [ha.out]; exact putSel_upk 17 hb_ rfl rfl rfl), Q_BK114, Q_HB, Q_HO120, Q_HO124, Q_HO128, Q_HO132, Q_HO136⟩
         refine steps_cons ?_ ?_
         ·rintro b a w' ⟨v119, v123, v127, v131, v135, ha, Q_BK114, Q_HB, Q_HO120, Q_HO124, Q_HO128, Q_HO132, Q_HO136⟩ hb_ hon hoff
          refine ⟨_, rfl, fun K hK => ?_⟩
          have e31 : a.tmps[31]? = some (.pointer (some ⟨gb114, 4, none⟩)) := by rw [ha]; exact (putSel_off rfl).trans rfl
          replace ha := Aside0.mk ha
          have BK114 := Aside0.mk Q_BK114
          have HB := Aside0.mk Q_HB
          have hc0_ : w'.cell? ⟨gb114, 0, none⟩ = some (.bool a0_0) := (blk_cell BK114.out 0).trans rfl
          have hc1_ : w'.cell? ⟨gb114, 1, none⟩ = some (.bool a0_1) := (blk_cell BK114.out 1).trans rfl
          have hc2_ : w'.cell? ⟨gb114, 2, none⟩ = some (.int .i64 a0_2) := (blk_cell BK114.out 2).trans rfl
          have hc3_ : w'.cell? ⟨gb114, 3, none⟩ = some (.int .i64 a0_3) := (blk_cell BK114.out 3).trans rfl
          have hc4_ : w'.cell? ⟨gb114, 4, none⟩ = some (.int .i64 a0_4) := (blk_cell BK114.out 4).trans rfl
          have hc5_ : w'.cell? ⟨gb114, 5, none⟩ = some (.int .i64 a0_5) := (blk_cell BK114.out 5).trans rfl
          refine value_ (w1 := w') (v := .int .i64 a0_4) (by rfl) rfl ?_ ?_
          ·go_simp
           (try simp only [i64_w])
           try rfl
           all_goals (try ((try simp only [ByteArray.size_append] at *); omega))
          refine hK.out _ _ ⟨v119, v123, v127, v131, v135, (by rw [ha.out]; exact putSel_upk 18 hb_ rfl rfl rfl), Q_BK114, Q_HB, Q_HO120, Q_HO124, Q_HO128, fun h0_ => absurd ((hoff 25 (by kernel_rfl)).symm.trans h0_) (by decide), Q_HO136⟩
         refine steps_cons ?_ ?_
         ·rintro b a w' ⟨v119, v123, v127, v131, v135, ha, Q_BK114, Q_HB, Q_HO120, Q_HO124, Q_HO128, Q_HO132, Q_HO136⟩ hb_ hon hoff
          refine ⟨_, rfl, fun K hK => ?_⟩
          have e32 : a.tmps[32]? = some (.int .i64 a0_4) := by rw [ha]; exact putSel_on (e := (24, 32, .int .i64 a0_4)) 18 rfl rfl (hon 24 (by kernel_rfl)) rfl
          replace ha := Aside0.mk ha
          have BK114 := Aside0.mk Q_BK114
          have HB := Aside0.mk Q_HB
          refine Kd.R_lit_step (Kd.int .i64) _ 3 ?hg (N := 33) ?hd (xs := ([a0_4] : List Int)) (inner := [.int .i64 a0_4]) (ok := fun _ => True) (okp := fun _ => True) ?hr ?hp (fun _ hk => hk) trivial (Below.refl _ _) (Nat.le_refl _) (by simp) ?_; (case hd => rfl); (case hg => rfl); (case hr => first | (go_simp; done) | (go_simp; rfl)); (case hp => exact (Reps.one (show Kd.M (Kd.int .i64) _ _ _ a0_4 [.int .i64 a0_4] from rfl) (Reps.none _ _)))
          intro v131 w21 ho22 hb hg_ hnew_
          clear hg_ hnew_
          (first | rw [← Ny130.out] at ho22 | (simp only [Int.reduceToNat] at ho22; rw [← Ny130.out] at ho22))
          have n0_ := Aside0.mk (Kd.R_lower ho22 (below_size (by repeat (first | (with_reducible first | exact HB.out | apply below_alloc | apply pw_below_drewN | apply below_drew1 | refine below_set ?_ GE114.out) | exact HB.out))))
          have n1_ := Aside0.mk (blk_below (g := gb114) (o := .cells #[.bool a0_0, .bool a0_1, .int .i64 a0_2, .int .i64 a0_3, .int .i64 a0_4, .int .i64 a0_5] 23 (0, 0)) (by (with_reducible repeat (first | refine blk_drewN ?_ _ | refine blk_drew ?_ | refine blk_alloc ?_ _)); exact BK114.out) hb)
          have n2_ := Aside0.mk (below_step (by repeat (first | (with_reducible first | exact HB.out | apply below_alloc | apply pw_below_drewN | apply below_drew1 | refine below_set ?_ GE114.out) | exact HB.out)) hb)
          have z_HO120 := fun (h0_ : b 7 = true) => (show Kd.R (Kd.int .i64) 3 w21 w.heap.size (fun _ => True) v119 y118 from by first | exact (Kd.R_elder' (by (with_reducible repeat (first | apply Kd.R_alloc | apply Kd.R_drewN | apply Kd.R_drew)); exact (Q_HO120 h0_)) (Kd.R_base ho22) hb) | exact Kd.R_mono (Kd.R_elder' (by (with_reducible repeat (first | apply Kd.R_alloc | apply Kd.R_drewN | apply Kd.R_drew)); exact (Q_HO120 h0_)) (Kd.R_base ho22) hb) (fun _ h_ => by first | trivial | exact h_ | exact h_.1))
          have z_HO124 := fun (h0_ : b 15 = true) => (show Kd.R (Kd.int .i64) 3 w21 w.heap.size (fun _ => True) v123 y122 from by first | exact (Kd.R_elder' (by (with_reducible repeat (first | apply Kd.R_alloc | apply Kd.R_drewN | apply Kd.R_drew)); exact (Q_HO124 h0_)) (Kd.R_base ho22) hb) | exact Kd.R_mono (Kd.R_elder' (by (with_reducible repeat (first | apply Kd.R_alloc | apply Kd.R_drewN | apply Kd.R_drew)); exact (Q_HO124 h0_)) (Kd.R_base ho22) hb) (fun _ h_ => by first | trivial | exact h_ | exact h_.1))
          have z_HO128 := fun (h0_ : b 20 = true) => (show Kd.R (Kd.int .i64) 3 w21 w.heap.size (fun _ => True) v127 y126 from by first | exact (Kd.R_elder' (by (with_reducible repeat (first | apply Kd.R_alloc | apply Kd.R_drewN | apply Kd.R_drew)); exact (Q_HO128 h0_)) (Kd.R_base ho22) hb) | exact Kd.R_mono (Kd.R_elder' (by (with_reducible repeat (first | apply Kd.R_alloc | apply Kd.R_drewN | apply Kd.R_drew)); exact (Q_HO128 h0_)) (Kd.R_base ho22) hb) (fun _ h_ => by first | trivial | exact h_ | exact h_.1))
          have z_HO136 := fun (h0_ : b 30 = true) => (show Kd.R (Kd.int .i64) 3 w21 w.heap.size (fun _ => True) v135 y134 from by first | exact (Kd.R_elder' (by (with_reducible repeat (first | apply Kd.R_alloc | apply Kd.R_drewN | apply Kd.R_drew)); exact (Q_HO136 h0_)) (Kd.R_base ho22) hb) | exact Kd.R_mono (Kd.R_elder' (by (with_reducible repeat (first | apply Kd.R_alloc | apply Kd.R_drewN | apply Kd.R_drew)); exact (Q_HO136 h0_)) (Kd.R_base ho22) hb) (fun _ h_ => by first | trivial | exact h_ | exact h_.1))
          clear BK114
          clear HB
          have HO132 := n0_
          have BK114 := n1_
          have HB := n2_
          clear n0_ n1_ n2_
          clear hb ho22
          refine hK.out _ _ ⟨v119, v123, v127, v131, v135, (by rw [ha.out]; exact putSel_upk 19 hb_ rfl rfl rfl), (by (with_reducible repeat (first | refine blk_drewN ?_ _ | refine blk_drew ?_ | refine blk_alloc ?_ _)); exact BK114.out), (by repeat (first | (with_reducible first | exact HB.out | apply below_alloc | apply pw_below_drewN | apply below_drew1 | refine below_set ?_ GE114.out) | exact HB.out)), z_HO120, z_HO124, z_HO128, fun _ => (by (with_reducible repeat (first | apply Kd.R_alloc | apply Kd.R_drewN | apply Kd.R_drew)); exact HO132.out), z_HO136⟩
         refine steps_cons ?_ ?_
         ·rintro b a w' ⟨v119, v123, v127, v131, v135, ha, Q_BK114, Q_HB, Q_HO120, Q_HO124, Q_HO128, Q_HO132, Q_HO136⟩ hb_ hon hoff
          refine ⟨_, rfl, fun K hK => ?_⟩
          have e33 : a.tmps[33]? = some (v131) := by rw [ha]; exact putSel_on (e := (25, 33, v131)) 19 rfl rfl (hon 25 (by kernel_rfl)) rfl
          replace ha := Aside0.mk ha
          have BK114 := Aside0.mk Q_BK114
          have HB := Aside0.mk Q_HB
          have HO120 := Aside0.mk (Q_HO120 (hon 7 (by kernel_rfl)))
          have HO124 := Aside0.mk (Q_HO124 (hon 15 (by kernel_rfl)))
          have HO128 := Aside0.mk (Q_HO128 (hon 20 (by kernel_rfl)))
          have HO132 := Aside0.mk (Q_HO132 (hon 25 (by kernel_rfl)))
          obtain ⟨Ao36, co36, eo36⟩ := Kd.R_slice HO132.out
          (first | subst eo36 | (injection eo36 with f1_ f2_ f3_; have f4_ := f1_.symm; have f5_ := f3_.symm; clear f1_ f2_ f3_; subst f4_; subst f5_))
          refine goes_ Try.func17 (by kernel_rfl) rfl #[.int .i64 9, .slice Ao36 y130.length co36] (by rfl) rfl rfl (by first | (simp only [List.map_toArray, List.map_cons, List.map_nil, Act.eval, Array.getD_eq_getD_getElem?, Option.getD_some, e33]; done) | (simp only [List.map_toArray, List.map_cons, List.map_nil, Act.eval, Array.getD_eq_getD_getElem?, Option.getD_some, e33]; rfl)) ?_
          with_reducible refine (xid_field.calls k 9 _ _ y130 t133 _ ?side1 ?side2 A11.out).mono ?_
          (case side1 => repeat (first | exact (Kd.R_reads' HO132.out).2.2 | (with_reducible refine Kd.C_alloc ?_ _) | (with_reducible refine Kd.C_drewN ?_ _) | (with_reducible refine Kd.C_drew ?_)))
          (case side2 => exact (Kd.R_reads' HO132.out).2.1)
          rintro e w37 ⟨rfl, hb⟩
          refine ⟨_, rfl, ?_⟩
          have n0_ := Aside0.mk (Kd.R_below (by (with_reducible repeat (first | apply Kd.R_alloc | apply Kd.R_drewN | apply Kd.R_drew)); exact HO120.out) hb)
          have n1_ := Aside0.mk (Kd.R_below (by (with_reducible repeat (first | apply Kd.R_alloc | apply Kd.R_drewN | apply Kd.R_drew)); exact HO124.out) hb)
          have n2_ := Aside0.mk (Kd.R_below (by (with_reducible repeat (first | apply Kd.R_alloc | apply Kd.R_drewN | apply Kd.R_drew)); exact HO128.out) hb)
          have n3_ := Aside0.mk (Kd.R_below (by (with_reducible repeat (first | apply Kd.R_alloc | apply Kd.R_drewN | apply Kd.R_drew)); exact HO132.out) hb)
          have n4_ := Aside0.mk (blk_below (g := gb114) (o := .cells #[.bool a0_0, .bool a0_1, .int .i64 a0_2, .int .i64 a0_3, .int .i64 a0_4, .int .i64 a0_5] 23 (0, 0)) (by (with_reducible repeat (first | refine blk_drewN ?_ _ | refine blk_drew ?_ | refine blk_alloc ?_ _)); exact BK114.out) hb)
          have n5_ := Aside0.mk (below_step (by repeat (first | (with_reducible first | exact HB.out | apply below_alloc | apply pw_below_drewN | apply below_drew1 | refine below_set ?_ GE114.out) | exact HB.out)) hb)
          have z_HO136 := fun (h0_ : b 30 = true) => (show Kd.R (Kd.int .i64) 3 w37 w.heap.size (fun _ => True) v135 y134 from by first | exact (Kd.R_below (by (with_reducible repeat (first | apply Kd.R_alloc | apply Kd.R_drewN | apply Kd.R_drew)); exact (Q_HO136 h0_)) hb) | exact Kd.R_mono (Kd.R_below (by (with_reducible repeat (first | apply Kd.R_alloc | apply Kd.R_drewN | apply Kd.R_drew)); exact (Q_HO136 h0_)) hb) (fun _ h_ => by first | trivial | exact h_ | exact h_.1))
          clear HO120
          clear HO124
          clear HO128
          clear HO132
          clear BK114
          clear HB
          have HO120 := n0_
          have HO124 := n1_
          have HO128 := n2_
          have HO132 := n3_
          have BK114 := n4_
          have HB := n5_
          clear n0_ n1_ n2_ n3_ n4_ n5_
          (try clear hb)
          (try clear hb2)
          (try clear hk)
          (try clear hi)
          refine hK.out _ _ ⟨v119, v123, v127, .slice Ao36 y130.length co36, v135, (by rw [ha.out]; exact putSel_upk 20 hb_ rfl rfl rfl), (by (with_reducible repeat (first | refine blk_drewN ?_ _ | refine blk_drew ?_ | refine blk_alloc ?_ _)); exact BK114.out), (by repeat (first | (with_reducible first | exact HB.out | apply below_alloc | apply pw_below_drewN | apply below_drew1 | refine below_set ?_ GE114.out) | exact HB.out)), fun _ => (by (with_reducible repeat (first | apply Kd.R_alloc | apply Kd.R_drewN | apply Kd.R_drew)); exact HO120.out), fun _ => (by (with_reducible repeat (first | apply Kd.R_alloc | apply Kd.R_drewN | apply Kd.R_drew)); exact HO124.out), fun _ => (by (with_reducible repeat (first | apply Kd.R_alloc | apply Kd.R_drewN | apply Kd.R_drew)); exact HO128.out), fun _ => (by (with_reducible repeat (first | apply Kd.R_alloc | apply Kd.R_drewN | apply Kd.R_drew)); exact HO132.out), z_HO136⟩
         refine steps_cons ?_ ?_
         ·rintro b a w' ⟨v119, v123, v127, v131, v135, ha, Q_BK114, Q_HB, Q_HO120, Q_HO124, Q_HO128, Q_HO132, Q_HO136⟩ hb_ hon hoff
          refine ⟨_, rfl, fun K hK => ?_⟩
          have e30 : a.tmps[30]? = some (.string ((t121 ++ t125) ++ t129)) := by rw [ha]; exact putSel_on (e := (22, 30, .string ((t121 ++ t125) ++ t129))) 17 rfl rfl (hon 22 (by kernel_rfl)) rfl
          have e34 : a.tmps[34]? = some (.string t133) := by rw [ha]; exact putSel_on (e := (26, 34, .string t133)) 20 rfl rfl (hon 26 (by kernel_rfl)) rfl
          replace ha := Aside0.mk ha
          have BK114 := Aside0.mk Q_BK114
          have HB := Aside0.mk Q_HB
          have HO120 := Aside0.mk (Q_HO120 (hon 7 (by kernel_rfl)))
          have HO124 := Aside0.mk (Q_HO124 (hon 15 (by kernel_rfl)))
          have HO128 := Aside0.mk (Q_HO128 (hon 20 (by kernel_rfl)))
          have HO132 := Aside0.mk (Q_HO132 (hon 25 (by kernel_rfl)))
          refine value_ (w1 := w') (v := .string (((t121 ++ t125) ++ t129) ++ t133)) (by rfl) rfl ?_ ?_
          ·go_simp
           (try simp only [i64_w])
           try rfl
           all_goals (try ((try simp only [ByteArray.size_append] at *); omega))
          refine hK.out _ _ ⟨v119, v123, v127, v131, v135, (by rw [ha.out]; exact putSel_upk 21 hb_ rfl rfl rfl), Q_BK114, Q_HB, Q_HO120, Q_HO124, Q_HO128, Q_HO132, Q_HO136⟩
         refine steps_cons ?_ ?_
         ·rintro b a w' ⟨v119, v123, v127, v131, v135, ha, Q_BK114, Q_HB, Q_HO120, Q_HO124, Q_HO128, Q_HO132, Q_HO136⟩ hb_ hon hoff
          refine ⟨_, rfl, fun K hK => ?_⟩
          have e36 : a.tmps[36]? = some (.pointer (some ⟨gb114, 5, none⟩)) := by rw [ha]; exact (putSel_off rfl).trans rfl
          replace ha := Aside0.mk ha
          have BK114 := Aside0.mk Q_BK114
          have HB := Aside0.mk Q_HB
          have hc0_ : w'.cell? ⟨gb114, 0, none⟩ = some (.bool a0_0) := (blk_cell BK114.out 0).trans rfl
          have hc1_ : w'.cell? ⟨gb114, 1, none⟩ = some (.bool a0_1) := (blk_cell BK114.out 1).trans rfl
          have hc2_ : w'.cell? ⟨gb114, 2, none⟩ = some (.int .i64 a0_2) := (blk_cell BK114.out 2).trans rfl
          have hc3_ : w'.cell? ⟨gb114, 3, none⟩ = some (.int .i64 a0_3) := (blk_cell BK114.out 3).trans rfl
          have hc4_ : w'.cell? ⟨gb114, 4, none⟩ = some (.int .i64 a0_4) := (blk_cell BK114.out 4).trans rfl
          have hc5_ : w'.cell? ⟨gb114, 5, none⟩ = some (.int .i64 a0_5) := (blk_cell BK114.out 5).trans rfl
          refine value_ (w1 := w') (v := .int .i64 a0_5) (by rfl) rfl ?_ ?_
          ·go_simp
           (try simp only [i64_w])
           try rfl
           all_goals (try ((try simp only [ByteArray.size_append] at *); omega))
          refine hK.out _ _ ⟨v119, v123, v127, v131, v135, (by rw [ha.out]; exact putSel_upk 22 hb_ rfl rfl rfl), Q_BK114, Q_HB, Q_HO120, Q_HO124, Q_HO128, Q_HO132, fun h0_ => absurd ((hoff 30 (by kernel_rfl)).symm.trans h0_) (by decide)⟩
         refine steps_cons ?_ ?_
         ·rintro b a w' ⟨v119, v123, v127, v131, v135, ha, Q_BK114, Q_HB, Q_HO120, Q_HO124, Q_HO128, Q_HO132, Q_HO136⟩ hb_ hon hoff
          refine ⟨_, rfl, fun K hK => ?_⟩
          have e37 : a.tmps[37]? = some (.int .i64 a0_5) := by rw [ha]; exact putSel_on (e := (29, 37, .int .i64 a0_5)) 22 rfl rfl (hon 29 (by kernel_rfl)) rfl
          replace ha := Aside0.mk ha
          have BK114 := Aside0.mk Q_BK114
          have HB := Aside0.mk Q_HB
          refine Kd.R_lit_step (Kd.int .i64) _ 3 ?hg (N := 38) ?hd (xs := ([a0_5] : List Int)) (inner := [.int .i64 a0_5]) (ok := fun _ => True) (okp := fun _ => True) ?hr ?hp (fun _ hk => hk) trivial (Below.refl _ _) (Nat.le_refl _) (by simp) ?_; (case hd => rfl); (case hg => rfl); (case hr => first | (go_simp; done) | (go_simp; rfl)); (case hp => exact (Reps.one (show Kd.M (Kd.int .i64) _ _ _ a0_5 [.int .i64 a0_5] from rfl) (Reps.none _ _)))
          intro v135 w21 ho22 hb hg_ hnew_
          clear hg_ hnew_
          (first | rw [← Ny134.out] at ho22 | (simp only [Int.reduceToNat] at ho22; rw [← Ny134.out] at ho22))
          have n0_ := Aside0.mk (Kd.R_lower ho22 (below_size (by repeat (first | (with_reducible first | exact HB.out | apply below_alloc | apply pw_below_drewN | apply below_drew1 | refine below_set ?_ GE114.out) | exact HB.out))))
          have n1_ := Aside0.mk (blk_below (g := gb114) (o := .cells #[.bool a0_0, .bool a0_1, .int .i64 a0_2, .int .i64 a0_3, .int .i64 a0_4, .int .i64 a0_5] 23 (0, 0)) (by (with_reducible repeat (first | refine blk_drewN ?_ _ | refine blk_drew ?_ | refine blk_alloc ?_ _)); exact BK114.out) hb)
          have n2_ := Aside0.mk (below_step (by repeat (first | (with_reducible first | exact HB.out | apply below_alloc | apply pw_below_drewN | apply below_drew1 | refine below_set ?_ GE114.out) | exact HB.out)) hb)
          have z_HO120 := fun (h0_ : b 7 = true) => (show Kd.R (Kd.int .i64) 3 w21 w.heap.size (fun _ => True) v119 y118 from by first | exact (Kd.R_elder' (by (with_reducible repeat (first | apply Kd.R_alloc | apply Kd.R_drewN | apply Kd.R_drew)); exact (Q_HO120 h0_)) (Kd.R_base ho22) hb) | exact Kd.R_mono (Kd.R_elder' (by (with_reducible repeat (first | apply Kd.R_alloc | apply Kd.R_drewN | apply Kd.R_drew)); exact (Q_HO120 h0_)) (Kd.R_base ho22) hb) (fun _ h_ => by first | trivial | exact h_ | exact h_.1))
          have z_HO124 := fun (h0_ : b 15 = true) => (show Kd.R (Kd.int .i64) 3 w21 w.heap.size (fun _ => True) v123 y122 from by first | exact (Kd.R_elder' (by (with_reducible repeat (first | apply Kd.R_alloc | apply Kd.R_drewN | apply Kd.R_drew)); exact (Q_HO124 h0_)) (Kd.R_base ho22) hb) | exact Kd.R_mono (Kd.R_elder' (by (with_reducible repeat (first | apply Kd.R_alloc | apply Kd.R_drewN | apply Kd.R_drew)); exact (Q_HO124 h0_)) (Kd.R_base ho22) hb) (fun _ h_ => by first | trivial | exact h_ | exact h_.1))
          have z_HO128 := fun (h0_ : b 20 = true) => (show Kd.R (Kd.int .i64) 3 w21 w.heap.size (fun _ => True) v127 y126 from by first | exact (Kd.R_elder' (by (with_reducible repeat (first | apply Kd.R_alloc | apply Kd.R_drewN | apply Kd.R_drew)); exact (Q_HO128 h0_)) (Kd.R_base ho22) hb) | exact Kd.R_mono (Kd.R_elder' (by (with_reducible repeat (first | apply Kd.R_alloc | apply Kd.R_drewN | apply Kd.R_drew)); exact (Q_HO128 h0_)) (Kd.R_base ho22) hb) (fun _ h_ => by first | trivial | exact h_ | exact h_.1))
          have z_HO132 := fun (h0_ : b 25 = true) => (show Kd.R (Kd.int .i64) 3 w21 w.heap.size (fun _ => True) v131 y130 from by first | exact (Kd.R_elder' (by (with_reducible repeat (first | apply Kd.R_alloc | apply Kd.R_drewN | apply Kd.R_drew)); exact (Q_HO132 h0_)) (Kd.R_base ho22) hb) | exact Kd.R_mono (Kd.R_elder' (by (with_reducible repeat (first | apply Kd.R_alloc | apply Kd.R_drewN | apply Kd.R_drew)); exact (Q_HO132 h0_)) (Kd.R_base ho22) hb) (fun _ h_ => by first | trivial | exact h_ | exact h_.1))
          clear BK114
          clear HB
          have HO136 := n0_
          have BK114 := n1_
          have HB := n2_
          clear n0_ n1_ n2_
          clear hb ho22
          refine hK.out _ _ ⟨v119, v123, v127, v131, v135, (by rw [ha.out]; exact putSel_upk 23 hb_ rfl rfl rfl), (by (with_reducible repeat (first | refine blk_drewN ?_ _ | refine blk_drew ?_ | refine blk_alloc ?_ _)); exact BK114.out), (by repeat (first | (with_reducible first | exact HB.out | apply below_alloc | apply pw_below_drewN | apply below_drew1 | refine below_set ?_ GE114.out) | exact HB.out)), z_HO120, z_HO124, z_HO128, z_HO132, fun _ => (by (with_reducible repeat (first | apply Kd.R_alloc | apply Kd.R_drewN | apply Kd.R_drew)); exact HO136.out)⟩
         refine steps_cons ?_ ?_
         ·rintro b a w' ⟨v119, v123, v127, v131, v135, ha, Q_BK114, Q_HB, Q_HO120, Q_HO124, Q_HO128, Q_HO132, Q_HO136⟩ hb_ hon hoff
          refine ⟨_, rfl, fun K hK => ?_⟩
          have e38 : a.tmps[38]? = some (v135) := by rw [ha]; exact putSel_on (e := (30, 38, v135)) 23 rfl rfl (hon 30 (by kernel_rfl)) rfl
          replace ha := Aside0.mk ha
          have BK114 := Aside0.mk Q_BK114
          have HB := Aside0.mk Q_HB
          have HO120 := Aside0.mk (Q_HO120 (hon 7 (by kernel_rfl)))
          have HO124 := Aside0.mk (Q_HO124 (hon 15 (by kernel_rfl)))
          have HO128 := Aside0.mk (Q_HO128 (hon 20 (by kernel_rfl)))
          have HO132 := Aside0.mk (Q_HO132 (hon 25 (by kernel_rfl)))
          have HO136 := Aside0.mk (Q_HO136 (hon 30 (by kernel_rfl)))
          obtain ⟨Ao40, co40, eo40⟩ := Kd.R_slice HO136.out
          (first | subst eo40 | (injection eo40 with f1_ f2_ f3_; have f4_ := f1_.symm; have f5_ := f3_.symm; clear f1_ f2_ f3_; subst f4_; subst f5_))
          refine goes_ Try.func17 (by kernel_rfl) rfl #[.int .i64 10, .slice Ao40 y134.length co40] (by rfl) rfl rfl (by first | (simp only [List.map_toArray, List.map_cons, List.map_nil, Act.eval, Array.getD_eq_getD_getElem?, Option.getD_some, e38]; done) | (simp only [List.map_toArray, List.map_cons, List.map_nil, Act.eval, Array.getD_eq_getD_getElem?, Option.getD_some, e38]; rfl)) ?_
          with_reducible refine (xid_field.calls k 10 _ _ y134 t137 _ ?side1 ?side2 A13.out).mono ?_
          (case side1 => repeat (first | exact (Kd.R_reads' HO136.out).2.2 | (with_reducible refine Kd.C_alloc ?_ _) | (with_reducible refine Kd.C_drewN ?_ _) | (with_reducible refine Kd.C_drew ?_)))
          (case side2 => exact (Kd.R_reads' HO136.out).2.1)
          rintro e w41 ⟨rfl, hb⟩
          refine ⟨_, rfl, ?_⟩
          have n0_ := Aside0.mk (Kd.R_below (by (with_reducible repeat (first | apply Kd.R_alloc | apply Kd.R_drewN | apply Kd.R_drew)); exact HO120.out) hb)
          have n1_ := Aside0.mk (Kd.R_below (by (with_reducible repeat (first | apply Kd.R_alloc | apply Kd.R_drewN | apply Kd.R_drew)); exact HO124.out) hb)
          have n2_ := Aside0.mk (Kd.R_below (by (with_reducible repeat (first | apply Kd.R_alloc | apply Kd.R_drewN | apply Kd.R_drew)); exact HO128.out) hb)
          have n3_ := Aside0.mk (Kd.R_below (by (with_reducible repeat (first | apply Kd.R_alloc | apply Kd.R_drewN | apply Kd.R_drew)); exact HO132.out) hb)
          have n4_ := Aside0.mk (Kd.R_below (by (with_reducible repeat (first | apply Kd.R_alloc | apply Kd.R_drewN | apply Kd.R_drew)); exact HO136.out) hb)
          have n5_ := Aside0.mk (blk_below (g := gb114) (o := .cells #[.bool a0_0, .bool a0_1, .int .i64 a0_2, .int .i64 a0_3, .int .i64 a0_4, .int .i64 a0_5] 23 (0, 0)) (by (with_reducible repeat (first | refine blk_drewN ?_ _ | refine blk_drew ?_ | refine blk_alloc ?_ _)); exact BK114.out) hb)
          have n6_ := Aside0.mk (below_step (by repeat (first | (with_reducible first | exact HB.out | apply below_alloc | apply pw_below_drewN | apply below_drew1 | refine below_set ?_ GE114.out) | exact HB.out)) hb)
          clear HO120
          clear HO124
          clear HO128
          clear HO132
          clear HO136
          clear BK114
          clear HB
          have HO120 := n0_
          have HO124 := n1_
          have HO128 := n2_
          have HO132 := n3_
          have HO136 := n4_
          have BK114 := n5_
          have HB := n6_
          clear n0_ n1_ n2_ n3_ n4_ n5_ n6_
          (try clear hb)
          (try clear hb2)
          (try clear hk)
          (try clear hi)
          refine hK.out _ _ ⟨v119, v123, v127, v131, .slice Ao40 y134.length co40, (by rw [ha.out]; exact putSel_upk 24 hb_ rfl rfl rfl), (by (with_reducible repeat (first | refine blk_drewN ?_ _ | refine blk_drew ?_ | refine blk_alloc ?_ _)); exact BK114.out), (by repeat (first | (with_reducible first | exact HB.out | apply below_alloc | apply pw_below_drewN | apply below_drew1 | refine below_set ?_ GE114.out) | exact HB.out)), fun _ => (by (with_reducible repeat (first | apply Kd.R_alloc | apply Kd.R_drewN | apply Kd.R_drew)); exact HO120.out), fun _ => (by (with_reducible repeat (first | apply Kd.R_alloc | apply Kd.R_drewN | apply Kd.R_drew)); exact HO124.out), fun _ => (by (with_reducible repeat (first | apply Kd.R_alloc | apply Kd.R_drewN | apply Kd.R_drew)); exact HO128.out), fun _ => (by (with_reducible repeat (first | apply Kd.R_alloc | apply Kd.R_drewN | apply Kd.R_drew)); exact HO132.out), fun _ => (by (with_reducible repeat (first | apply Kd.R_alloc | apply Kd.R_drewN | apply Kd.R_drew)); exact HO136.out)⟩
         refine steps_cons ?_ ?_
         ·rintro b a w' ⟨v119, v123, v127, v131, v135, ha, Q_BK114, Q_HB, Q_HO120, Q_HO124, Q_HO128, Q_HO132, Q_HO136⟩ hb_ hon hoff
          refine ⟨_, rfl, fun K hK => ?_⟩
          have e35 : a.tmps[35]? = some (.string (((t121 ++ t125) ++ t129) ++ t133)) := by rw [ha]; exact putSel_on (e := (27, 35, .string (((t121 ++ t125) ++ t129) ++ t133))) 21 rfl rfl (hon 27 (by kernel_rfl)) rfl
          have e39 : a.tmps[39]? = some (.string t137) := by rw [ha]; exact putSel_on (e := (31, 39, .string t137)) 24 rfl rfl (hon 31 (by kernel_rfl)) rfl
          replace ha := Aside0.mk ha
          have BK114 := Aside0.mk Q_BK114
          have HB := Aside0.mk Q_HB
          have HO120 := Aside0.mk (Q_HO120 (hon 7 (by kernel_rfl)))
          have HO124 := Aside0.mk (Q_HO124 (hon 15 (by kernel_rfl)))
          have HO128 := Aside0.mk (Q_HO128 (hon 20 (by kernel_rfl)))
          have HO132 := Aside0.mk (Q_HO132 (hon 25 (by kernel_rfl)))
          have HO136 := Aside0.mk (Q_HO136 (hon 30 (by kernel_rfl)))
          refine value_ (w1 := w') (v := .string ((((t121 ++ t125) ++ t129) ++ t133) ++ t137)) (by rfl) rfl ?_ ?_
          ·go_simp
           (try simp only [i64_w])
           try rfl
           all_goals (try ((try simp only [ByteArray.size_append] at *); omega))
          refine hK.out _ _ ⟨v119, v123, v127, v131, v135, (by rw [ha.out]; exact putSel_upk 25 hb_ rfl rfl rfl), Q_BK114, Q_HB, Q_HO120, Q_HO124, Q_HO128, Q_HO132, Q_HO136⟩
         refine steps_cons ?_ ?_
         ·rintro b a w' ⟨v119, v123, v127, v131, v135, ha, Q_BK114, Q_HB, Q_HO120, Q_HO124, Q_HO128, Q_HO132, Q_HO136⟩ hb_ hon hoff
          refine ⟨_, rfl, fun K hK => ?_⟩
          have e40 : a.tmps[40]? = some (.string ((((t121 ++ t125) ++ t129) ++ t133) ++ t137)) := by rw [ha]; exact putSel_on (e := (32, 40, .string ((((t121 ++ t125) ++ t129) ++ t133) ++ t137))) 25 rfl rfl (hon 32 (by kernel_rfl)) rfl
          replace ha := Aside0.mk ha
          have BK114 := Aside0.mk Q_BK114
          have HB := Aside0.mk Q_HB
          have HO120 := Aside0.mk (Q_HO120 (hon 7 (by kernel_rfl)))
          have HO124 := Aside0.mk (Q_HO124 (hon 15 (by kernel_rfl)))
          have HO128 := Aside0.mk (Q_HO128 (hon 20 (by kernel_rfl)))
          have HO132 := Aside0.mk (Q_HO132 (hon 25 (by kernel_rfl)))
          have HO136 := Aside0.mk (Q_HO136 (hon 30 (by kernel_rfl)))
          refine value_ (w1 := w') (v := .string ((((t121 ++ t125) ++ t129) ++ t133) ++ t137)) (by rfl) rfl ?_ ?_
          ·go_simp
           (try simp only [i64_w])
           try rfl
           all_goals (try ((try simp only [ByteArray.size_append] at *); omega))
          refine hK.out _ _ ⟨v119, v123, v127, v131, v135, (by rw [ha.out]; exact putSel_upk 26 hb_ rfl rfl rfl), Q_BK114, Q_HB, Q_HO120, Q_HO124, Q_HO128, Q_HO132, Q_HO136⟩
         exact steps_nil
        rintro b a w41 hall ⟨v119, v123, v127, v131, v135, ha, Q_BK114, Q_HB, Q_HO120, Q_HO124, Q_HO128, Q_HO132, Q_HO136⟩
        clear BK114 HB
        have hb1_ := hall 1 (by kernel_rfl)
        have hb2_ := hall 2 (by kernel_rfl)
        have hb4_ := hall 4 (by kernel_rfl)
        have hb5_ := hall 5 (by kernel_rfl)
        have hb6_ := hall 6 (by kernel_rfl)
        have hb7_ := hall 7 (by kernel_rfl)
        have hb8_ := hall 8 (by kernel_rfl)
        have hb10_ := hall 10 (by kernel_rfl)
        have hb11_ := hall 11 (by kernel_rfl)
        have hb13_ := hall 13 (by kernel_rfl)
        have hb14_ := hall 14 (by kernel_rfl)
        have hb15_ := hall 15 (by kernel_rfl)
        have hb16_ := hall 16 (by kernel_rfl)
        have hb17_ := hall 17 (by kernel_rfl)
        have hb19_ := hall 19 (by kernel_rfl)
        have hb20_ := hall 20 (by kernel_rfl)
        have hb21_ := hall 21 (by kernel_rfl)
        have hb22_ := hall 22 (by kernel_rfl)
        have hb24_ := hall 24 (by kernel_rfl)
        have hb25_ := hall 25 (by kernel_rfl)
        have hb26_ := hall 26 (by kernel_rfl)
        have hb27_ := hall 27 (by kernel_rfl)
        have hb29_ := hall 29 (by kernel_rfl)
        have hb30_ := hall 30 (by kernel_rfl)
        have hb31_ := hall 31 (by kernel_rfl)
        have hb32_ := hall 32 (by kernel_rfl)
        have hb33_ := hall 33 (by kernel_rfl)
        subst ha
        simp only [putSel, hb1_, hb2_, hb4_, hb5_, hb6_, hb7_, hb8_, hb10_, hb11_, hb13_, hb14_, hb15_, hb16_, hb17_, hb19_, hb20_, hb21_, hb22_, hb24_, hb25_, hb26_, hb27_, hb29_, hb30_, hb31_, hb32_, hb33_, if_true, Act.put, List.setIfInBounds_toArray, List.set_cons_zero, List.set_cons_succ]
        have BK114 := Aside0.mk Q_BK114
        clear Q_BK114
        have HB := Aside0.mk Q_HB
        clear Q_HB
        have HO120 := Aside0.mk (Q_HO120 hb7_)
        clear Q_HO120
        have HO124 := Aside0.mk (Q_HO124 hb15_)
        clear Q_HO124
        have HO128 := Aside0.mk (Q_HO128 hb20_)
        clear Q_HO128
        have HO132 := Aside0.mk (Q_HO132 hb25_)
        clear Q_HO132
        have HO136 := Aside0.mk (Q_HO136 hb30_)
        clear Q_HO136
        clear hall hb1_ hb2_ hb4_ hb5_ hb6_ hb7_ hb8_ hb10_ hb11_ hb13_ hb14_ hb15_ hb16_ hb17_ hb19_ hb20_ hb21_ hb22_ hb24_ hb25_ hb26_ hb27_ hb29_ hb30_ hb31_ hb32_ hb33_
        try go_wp2_with (first | ((with_reducible refine gate_dst (N := 44) rfl ?_); refine Kd.R_lit (Kd.int .u8) _ 5 ?hg (N := 44) ?hd (xs := ([0, ((((((t121 ++ t125) ++ t129) ++ t133) ++ t137).size : Int)) % 256] : List Int)) (inner := [.int .u8 0, .int .u8 (((((((t121 ++ t125) ++ t129) ++ t133) ++ t137).size : Int)) % 256)]) (ok := fun _ => True) (okp := fun _ => True) ?hr ?hp (fun _ hk => hk) trivial (Below.refl _ _) (Nat.le_refl _) (by simp) ?_; (case hd => rfl); (case hg => rfl); (case hr => first | (go_simp; done) | (go_simp; rfl)); (case hp => exact (Reps.one (show Kd.M (Kd.int .u8) _ _ _ 0 [.int .u8 0] from rfl) (Reps.one (show Kd.M (Kd.int .u8) _ _ _ (((((((t121 ++ t125) ++ t129) ++ t133) ++ t137).size : Int)) % 256) [.int .u8 (((((((t121 ++ t125) ++ t129) ++ t133) ++ t137).size : Int)) % 256)] from rfl) (Reps.none _ _)))); intro v139 w42 ho43 hb hg_ hnew_; clear hg_ hnew_; (first | rw [← Ny138.out] at ho43 | (simp only [Int.reduceToNat] at ho43; rw [← Ny138.out] at ho43)); have n0_ := Aside0.mk (Kd.R_below (by (with_reducible repeat (first | apply Kd.R_alloc | apply Kd.R_drewN | apply Kd.R_drew)); exact HO120.out) hb); have n1_ := Aside0.mk (Kd.R_below (by (with_reducible repeat (first | apply Kd.R_alloc | apply Kd.R_drewN | apply Kd.R_drew)); exact HO124.out) hb); have n2_ := Aside0.mk (Kd.R_below (by (with_reducible repeat (first | apply Kd.R_alloc | apply Kd.R_drewN | apply Kd.R_drew)); exact HO128.out) hb); have n3_ := Aside0.mk (Kd.R_below (by (with_reducible repeat (first | apply Kd.R_alloc | apply Kd.R_drewN | apply Kd.R_drew)); exact HO132.out) hb); have n4_ := Aside0.mk (Kd.R_below (by (with_reducible repeat (first | apply Kd.R_alloc | apply Kd.R_drewN | apply Kd.R_drew)); exact HO136.out) hb); have n5_ := Aside0.mk (Kd.R_lower ho43 (below_size (by repeat (first | (with_reducible first | exact HB.out | apply below_alloc | apply pw_below_drewN | apply below_drew1 | refine below_set ?_ GE114.out) | exact HB.out)))); have n6_ := Aside0.mk (blk_below (g := gb114) (o := .cells #[.bool a0_0, .bool a0_1, .int .i64 a0_2, .int .i64 a0_3, .int .i64 a0_4, .int .i64 a0_5] 23 (0, 0)) (by (with_reducible repeat (first | refine blk_drewN ?_ _ | refine blk_drew ?_ | refine blk_alloc ?_ _)); exact BK114.out) hb); have n7_ := Aside0.mk (below_step (by repeat (first | (with_reducible first | exact HB.out | apply below_alloc | apply pw_below_drewN | apply below_drew1 | refine below_set ?_ GE114.out) | exact HB.out)) hb); clear HO120; clear HO124; clear HO128; clear HO132; clear HO136; clear BK114; clear HB; have HO120 := n0_; have HO124 := n1_; have HO128 := n2_; have HO132 := n3_; have HO136 := n4_; have HO140 := n5_; have BK114 := n6_; have HB := n7_; clear n0_ n1_ n2_ n3_ n4_ n5_ n6_ n7_; clear hb ho43; have hcv44 := own_string (P := Try.prog) Try.underlying43 Try.underlying5 Try.underlying9 (Kd.own_of_R HO140.out)))
        go_ret2
        exact ⟨by first | rfl | (simp [errW_none, errW_some] <;> rfl) | (simp [*, errW_none, errW_some] <;> rfl), by repeat (first | (with_reducible first | exact HB.out | apply below_alloc | apply pw_below_drewN | apply below_drew1 | refine below_set ?_ GE114.out) | exact HB.out)⟩
       ·rw [if_neg c16] at H
        exact absurd H (by simp)
      ·rw [if_neg c15] at H
       exact absurd H (by simp)
     ·rw [if_neg c14] at H
      exact absurd H (by simp)
    ·rw [if_neg c12] at H
     exact absurd H (by simp)
   ·rw [if_neg c10] at H
    exact absurd H (by simp)
  ·rw [if_neg c8] at H
   exact absurd H (by simp)
 ·replace c3 := Bool.eq_false_iff.mpr c3
  subst c3
  have H1 : (some ((⟨#[]⟩ : ByteArray), 1)) = some (r1, r2) := by rw [if_neg (show ¬ (false = true) by decide)] at H; exact H
  clear H
  have H := H1
  clear H1
  simp only [Option.some.injEq, Prod.mk.injEq] at H
  obtain ⟨rfl, rfl⟩ := H
  go_enter Try.func10, Try.ntmps10
  go_wp2_with (first | ((with_reducible refine gate_dst (N := 1) rfl ?_); refine box_event ?hg (N := 1) ?hd (cs := #[.bool a0_0, .bool a0_1, .int .i64 a0_2, .int .i64 a0_3, .int .i64 a0_4, .int .i64 a0_5]) (t := 23) ?hr ?_; (case hd => rfl); (case hg => rfl); (case hr => first | (go_simp; done) | (go_simp; rfl)); intro gb114 hg w45 hbox hb; have n0_ := Aside0.mk (below_step (by repeat (first | (with_reducible first | exact HB.out | apply below_alloc | apply pw_below_drewN | apply below_drew1) | exact HB.out)) hb); have n1_ := Aside0.mk (hbox); have n2_ := Aside0.mk ((by rw [hg]; exact (below_size (by repeat (first | (with_reducible first | exact HB.out | apply below_alloc | apply pw_below_drewN | apply below_drew1) | exact HB.out))) : w.heap.size ≤ gb114)); have n3_ := Aside0.mk ((by rw [hg]; exact (below_size (by repeat (first | (with_reducible first | exact HB.out | apply below_alloc | apply pw_below_drewN | apply below_drew1) | exact HB.out))) : w.heap.size ≤ gb114)); clear HB; have HB := n0_; have BK114 := n1_; have GW114 := n2_; have GE114 := n3_; clear n0_ n1_ n2_ n3_; clear hb hbox hg; have hcz46_0 : w45.cell? ⟨gb114, 0, none⟩ = some (.bool a0_0) := (blk_cell BK114.out 0).trans rfl; have hcz46_1 : w45.cell? ⟨gb114, 1, none⟩ = some (.bool a0_1) := (blk_cell BK114.out 1).trans rfl; have hcz46_2 : w45.cell? ⟨gb114, 2, none⟩ = some (.int .i64 a0_2) := (blk_cell BK114.out 2).trans rfl; have hcz46_3 : w45.cell? ⟨gb114, 3, none⟩ = some (.int .i64 a0_3) := (blk_cell BK114.out 3).trans rfl; have hcz46_4 : w45.cell? ⟨gb114, 4, none⟩ = some (.int .i64 a0_4) := (blk_cell BK114.out 4).trans rfl; have hcz46_5 : w45.cell? ⟨gb114, 5, none⟩ = some (.int .i64 a0_5) := (blk_cell BK114.out 5).trans rfl; have hfz46_0 := blk_frozen BK114.out 0; have hfz46_1 := blk_frozen BK114.out 1; have hfz46_2 := blk_frozen BK114.out 2; have hfz46_3 := blk_frozen BK114.out 3; have hfz46_4 := blk_frozen BK114.out 4; have hfz46_5 := blk_frozen BK114.out 5) | ((with_reducible refine gate_callee (f := 9) rfl ?_); refine goesL_ (some 6) rfl rfl Try.func9 (by kernel_rfl) rfl #[.agg #[.bool a0_0, .bool a0_1, .int .i64 a0_2, .int .i64 a0_3, .int .i64 a0_4, .int .i64 a0_5]] rfl (by (try simp only [List.map_toArray, List.map_cons, List.map_nil]); first | done | rfl | (simp only [List.length_drop, List.length_take]; rfl)) ?_; (with_reducible refine (xid_Right.calls a0_0 a0_1 a0_2 a0_3 a0_4 a0_5 false _ A2.out).mono ?_); rintro e w47 ⟨rfl, hb⟩; refine ⟨_, rfl, ?_⟩; have n0_ := Aside0.mk (blk_below (g := gb114) (o := .cells #[.bool a0_0, .bool a0_1, .int .i64 a0_2, .int .i64 a0_3, .int .i64 a0_4, .int .i64 a0_5] 23 (0, 0)) (by (with_reducible repeat (first | refine blk_drewN ?_ _ | refine blk_drew ?_ | refine blk_alloc ?_ _)); exact BK114.out) hb); have n1_ := Aside0.mk (below_step (by repeat (first | (with_reducible first | exact HB.out | apply below_alloc | apply pw_below_drewN | apply below_drew1 | refine below_set ?_ GE114.out) | exact HB.out)) hb); clear BK114; clear HB; have BK114 := n0_; have HB := n1_; clear n0_ n1_; (try clear hb); (try clear hb2); (try clear hk); (try clear hi)))
  go_ret2
  exact ⟨by first | rfl | (simp [errW_none, errW_some] <;> rfl) | (simp [*, errW_none, errW_some] <;> rfl), by repeat (first | (with_reducible first | exact HB.out | apply below_alloc | apply pw_below_drewN | apply below_drew1 | refine below_set ?_ GE114.out) | exact HB.out)⟩

end Go.Proofs.Ytpmieapgbdbabaa.QXidPuts
end

section
/- Walks, written by a program of this session (wip/pp): a Go function comes to what the Lean function beside it tells. -/
namespace Go.Proofs.Ytpmieapgbdbabaa.QXidPuts
open Go.RowKit Go.Proofs.YtpmieapgbdbabaaW.PrintWords Go.Proofs.YtpmieapgbdbabaaW.PrintLast Go.Proofs.YtpmieapgbdbabaaW.PrintMore
attribute [local go_sem] max2_int min2_int max_two min_two max_three min_three max_four min_four
set_option linter.unusedVariables false
set_option linter.unusedSimpArgs false

def xid_Usual.f  : Option (Bool × Bool × Int × Int × Int × Int) := some (false, false, 64, 4, 20, 5)
set_option maxHeartbeats 8000000 in
set_option maxRecDepth 100000 in
theorem xid_Usual.calls  (r1 : Bool) (r2 : Bool) (r3 : Int) (r4 : Int) (r5 : Int) (r6 : Int) (w : World) (h : xid_Usual.f  = some (r1, r2, r3, r4, r5, r6)) :
  Calls Try.prog 15 #[] w fun e w' => e = .returned (.agg #[.bool r1, .bool r2, .int .i64 r3, .int .i64 r4, .int .i64 r5, .int .i64 r6]) ∧ Below w.heap.size w w' := by
 have hu23 := Try.underlying23
 have HB := Aside0.mk (Below.refl w.heap.size w)
 have H : (some (false, false, 64, 4, 20, 5)) = some (r1, r2, r3, r4, r5, r6) := h
 clear h
 simp only [Option.some.injEq, Prod.mk.injEq] at H
 obtain ⟨rfl, rfl, rfl, rfl, rfl, rfl⟩ := H
 go_enter Try.func15, Try.ntmps15
 go_wp2_with (first | ((with_reducible refine gate_dst (N := 0) rfl ?_); refine box_event ?hg (N := 0) ?hd (cs := #[.bool false, .bool false, .int .i64 0, .int .i64 0, .int .i64 0, .int .i64 0]) (t := 23) ?hr ?_; (case hd => rfl); (case hg => rfl); (case hr => first | (go_simp; done) | (go_simp; rfl)); intro gb141 hg w1 hbox hb; have n0_ := Aside0.mk (below_step (by repeat (first | (with_reducible first | exact HB.out | apply below_alloc | apply pw_below_drewN | apply below_drew1) | exact HB.out)) hb); have n1_ := Aside0.mk (hbox); have n2_ := Aside0.mk ((by rw [hg]; exact (below_size (by repeat (first | (with_reducible first | exact HB.out | apply below_alloc | apply pw_below_drewN | apply below_drew1) | exact HB.out))) : w.heap.size ≤ gb141)); have n3_ := Aside0.mk ((by rw [hg]; exact (below_size (by repeat (first | (with_reducible first | exact HB.out | apply below_alloc | apply pw_below_drewN | apply below_drew1) | exact HB.out))) : w.heap.size ≤ gb141)); clear HB; have HB := n0_; have BK141 := n1_; have GW141 := n2_; have GE141 := n3_; clear n0_ n1_ n2_ n3_; clear hb hbox hg; have hcz2_0 : w1.cell? ⟨gb141, 0, none⟩ = some (.bool false) := (blk_cell BK141.out 0).trans rfl; have hcz2_1 : w1.cell? ⟨gb141, 1, none⟩ = some (.bool false) := (blk_cell BK141.out 1).trans rfl; have hcz2_2 : w1.cell? ⟨gb141, 2, none⟩ = some (.int .i64 0) := (blk_cell BK141.out 2).trans rfl; have hcz2_3 : w1.cell? ⟨gb141, 3, none⟩ = some (.int .i64 0) := (blk_cell BK141.out 3).trans rfl; have hcz2_4 : w1.cell? ⟨gb141, 4, none⟩ = some (.int .i64 0) := (blk_cell BK141.out 4).trans rfl; have hcz2_5 : w1.cell? ⟨gb141, 5, none⟩ = some (.int .i64 0) := (blk_cell BK141.out 5).trans rfl; have hfz2_0 := blk_frozen BK141.out 0; have hfz2_1 := blk_frozen BK141.out 1; have hfz2_2 := blk_frozen BK141.out 2; have hfz2_3 := blk_frozen BK141.out 3; have hfz2_4 := blk_frozen BK141.out 4; have hfz2_5 := blk_frozen BK141.out 5))
 refine bodyPost_ret (results_cell_row rfl _ _ gb141 23 #[.bool false, .bool false, .int .i64 64, .int .i64 4, .int .i64 20, .int .i64 5] (0, 0) _ rfl (by (with_reducible repeat (first | refine blk_drewN ?_ _ | refine blk_drew ?_ | refine blk_alloc ?_ _)); refine blk_put (cs := #[.bool false, .bool false, .int .i64 64, .int .i64 4, .int .i64 20, .int .i64 0]) ?_ 5 _ rfl; (with_reducible repeat (first | refine blk_drewN ?_ _ | refine blk_drew ?_ | refine blk_alloc ?_ _)); refine blk_put (cs := #[.bool false, .bool false, .int .i64 64, .int .i64 4, .int .i64 0, .int .i64 0]) ?_ 4 _ rfl; (with_reducible repeat (first | refine blk_drewN ?_ _ | refine blk_drew ?_ | refine blk_alloc ?_ _)); refine blk_put (cs := #[.bool false, .bool false, .int .i64 64, .int .i64 0, .int .i64 0, .int .i64 0]) ?_ 3 _ rfl; (with_reducible repeat (first | refine blk_drewN ?_ _ | refine blk_drew ?_ | refine blk_alloc ?_ _)); refine blk_put (cs := #[.bool false, .bool false, .int .i64 0, .int .i64 0, .int .i64 0, .int .i64 0]) ?_ 2 _ rfl; (with_reducible repeat (first | refine blk_drewN ?_ _ | refine blk_drew ?_ | refine blk_alloc ?_ _)); refine blk_put (cs := #[.bool false, .bool false, .int .i64 0, .int .i64 0, .int .i64 0, .int .i64 0]) ?_ 1 _ rfl; (with_reducible repeat (first | refine blk_drewN ?_ _ | refine blk_drew ?_ | refine blk_alloc ?_ _)); refine blk_put (cs := #[.bool false, .bool false, .int .i64 0, .int .i64 0, .int .i64 0, .int .i64 0]) ?_ 0 _ rfl; (with_reducible repeat (first | refine blk_drewN ?_ _ | refine blk_drew ?_ | refine blk_alloc ?_ _)); exact BK141.out) Try.underlying23 rfl (by kernel_rfl)) rfl ?_
 exact ⟨by first | rfl | (simp [errW_none, errW_some] <;> rfl) | (simp [*, errW_none, errW_some] <;> rfl), by repeat (first | (with_reducible first | exact HB.out | apply below_alloc | apply pw_below_drewN | apply below_drew1 | refine below_set ?_ GE141.out) | exact HB.out)⟩

end Go.Proofs.Ytpmieapgbdbabaa.QXidPuts
end

section
/- Walks, written by a program of this session (wip/pp): a Go function comes to what the Lean function beside it tells. -/
namespace Go.Proofs.Ytpmieapgbdbabaa.QXidPuts
open Go.RowKit Go.Proofs.YtpmieapgbdbabaaW.PrintWords Go.Proofs.YtpmieapgbdbabaaW.PrintLast Go.Proofs.YtpmieapgbdbabaaW.PrintMore
attribute [local go_sem] max2_int min2_int max_two min_two max_three min_three max_four min_four
set_option linter.unusedVariables false
set_option linter.unusedSimpArgs false

def squelchlaw08_awake.f (k : Nat)  : Option (Bool) := (xid_Usual.f).bind fun bt142 => ((xid_Put.f k bt142.1 bt142.2.1 bt142.2.2.1 bt142.2.2.2.1 bt142.2.2.2.2.1 bt142.2.2.2.2.2).bind fun bt148 => (if bt148.2 = 0 then (if (bt148.1.size : Int) = 21 then (if 3 < (bt148.1.size : Int) then (if (bt bt148.1 3) = 17 then ((xid_Usual.f).bind fun bt150 => (some (bt150.2.2.2.1 == 4))) else (some false)) else (none)) else (some false)) else (some false)))
set_option maxHeartbeats 8000000 in
set_option maxRecDepth 100000 in
theorem squelchlaw08_awake.calls (k : Nat)  (r : Bool) (w : World) (h : squelchlaw08_awake.f k  = some r) :
  Calls Try.prog 5 #[] w fun e w' => e = .returned (.bool r) ∧ Below w.heap.size w w' := by
 have hu23 := Try.underlying23
 have hfd23_3 : ∀ (y0_ y1_ y2_ y3_ y4_ y5_ : Value) (W : World), (Instr.field 23 (.agg #[y0_, y1_, y2_, y3_, y4_, y5_]) 3).run Try.prog W = .ok (y3_) W := fun y0_ y1_ y2_ y3_ y4_ y5_ W => by kernel_rfl
 have HB := Aside0.mk (Below.refl w.heap.size w)
 have H : ((xid_Usual.f).bind fun bt142 => ((xid_Put.f k bt142.1 bt142.2.1 bt142.2.2.1 bt142.2.2.2.1 bt142.2.2.2.2.1 bt142.2.2.2.2.2).bind fun bt148 => (if bt148.2 = 0 then (if (bt148.1.size : Int) = 21 then (if 3 < (bt148.1.size : Int) then (if (bt bt148.1 3) = 17 then ((xid_Usual.f).bind fun bt150 => (some (bt150.2.2.2.1 == 4))) else (some false)) else (none)) else (some false)) else (some false)))) = some r := h
 clear h
 replace H := Option.bind_eq_some_iff.mp H
 obtain ⟨⟨t142, t143, t144, t145, t146, t147⟩, A10, H⟩ := H
 replace H : ((xid_Put.f k t142 t143 t144 t145 t146 t147).bind fun bt148 => (if bt148.2 = 0 then (if (bt148.1.size : Int) = 21 then (if 3 < (bt148.1.size : Int) then (if (bt bt148.1 3) = 17 then ((xid_Usual.f).bind fun bt150 => (some (bt150.2.2.2.1 == 4))) else (some false)) else (none)) else (some false)) else (some false))) = some r := H
 have A1 := Aside0.mk A10
 clear A10
 replace H := Option.bind_eq_some_iff.mp H
 obtain ⟨⟨t148, t149⟩, A20, H⟩ := H
 replace H : (if t149 = 0 then (if (t148.size : Int) = 21 then (if 3 < (t148.size : Int) then (if (bt t148 3) = 17 then ((xid_Usual.f).bind fun bt150 => (some (bt150.2.2.2.1 == 4))) else (some false)) else (none)) else (some false)) else (some false)) = some r := H
 have A2 := Aside0.mk A20
 clear A20
 by_cases c3 : t149 = 0
 ·rw [if_pos c3] at H
  have c3b0 : (t149 == 0) = true := beq_iff_eq.mpr c3
  have c3b1 : (t149 != 0) = false := bne_eq_false_iff_eq.mpr c3
  clear c3
  by_cases c4 : (t148.size : Int) = 21
  ·rw [if_pos c4] at H
   have c4b0 : ((t148.size : Int) == 21) = true := beq_iff_eq.mpr c4
   have c4b1 : ((t148.size : Int) != 21) = false := bne_eq_false_iff_eq.mpr c4
   clear c4
   by_cases c5 : 3 < (t148.size : Int)
   ·rw [if_pos c5] at H
    have c5b0 : decide (3 < (t148.size : Int)) = true := decide_eq_true c5
    have c5b1 : decide (3 < t148.size) = true := decide_eq_true (by omega)
    clear c5
    by_cases c7 : (bt t148 3) = 17
    ·rw [if_pos c7] at H
     have c7b0 : ((bt t148 3) == 17) = true := beq_iff_eq.mpr c7
     have c7b1 : ((bt t148 3) != 17) = false := bne_eq_false_iff_eq.mpr c7
     clear c7
     replace H := Option.bind_eq_some_iff.mp H
     obtain ⟨⟨t150, t151, t152, t153, t154, t155⟩, A80, H⟩ := H
     replace H : (some (t153 == 4)) = some r := H
     have A8 := Aside0.mk A80
     clear A80
     obtain rfl := Option.some.inj H
     go_enter Try.func5, Try.ntmps5
     go_wp2_with (first | ((with_reducible refine gate_callee (f := 15) rfl ?_); refine goesL_ (some 4) rfl rfl Try.func15 (by kernel_rfl) rfl #[] rfl (by (try simp only [List.map_toArray, List.map_cons, List.map_nil]); first | done | rfl | (simp only [List.length_drop, List.length_take]; rfl)) ?_; (with_reducible refine (xid_Usual.calls  t142 t143 t144 t145 t146 t147 _ A1.out).mono ?_); rintro e w9 ⟨rfl, hb⟩; refine ⟨_, rfl, ?_⟩; have n0_ := Aside0.mk (below_step (by repeat (first | (with_reducible first | exact HB.out | apply below_alloc | apply pw_below_drewN | apply below_drew1) | exact HB.out)) hb); clear HB; have HB := n0_; clear n0_; (try clear hb); (try clear hb2); (try clear hk); (try clear hi)) | ((with_reducible refine gate_callee (f := 10) rfl ?_); refine goesL_ (some 5) rfl rfl Try.func10 (by kernel_rfl) rfl #[.agg #[.bool t142, .bool t143, .int .i64 t144, .int .i64 t145, .int .i64 t146, .int .i64 t147]] rfl (by (try simp only [List.map_toArray, List.map_cons, List.map_nil]); first | done | rfl | (simp only [List.length_drop, List.length_take]; rfl)) ?_; (with_reducible refine (xid_Put.calls k t142 t143 t144 t145 t146 t147 t148 t149 _ A2.out).mono ?_); rintro e w10 ⟨rfl, hb⟩; refine ⟨_, rfl, ?_⟩; have n0_ := Aside0.mk (below_step (by repeat (first | (with_reducible first | exact HB.out | apply below_alloc | apply pw_below_drewN | apply below_drew1) | exact HB.out)) hb); clear HB; have HB := n0_; clear n0_; (try clear hb); (try clear hb2); (try clear hk); (try clear hi); have p6 : 0 ≤ (3 : Int) := (by omega); have q6 : 3 < t148.size := (by have : (3 : Int) < (t148.size : Int) := of_decide_eq_true (by first | (with_reducible assumption) | assumption); omega); have hx6 : ∀ h : 3 < t148.size, ((t148[3]'h).toNat : Int) = bt t148 3 := bt_at t148 3; clear p6; have qi6 : (3 < (t148.size : Int)) = True := eq_true (of_decide_eq_true (by first | (with_reducible assumption) | assumption)); replace q6 := eq_true q6) | (go_at_call 15; (with_reducible refine (xid_Usual.calls  t150 t151 t152 t153 t154 t155 _ A8.out).mono ?_); rintro e w11 ⟨rfl, hb⟩; have n0_ := Aside0.mk (below_step (by repeat (first | (with_reducible first | exact HB.out | apply below_alloc | apply pw_below_drewN | apply below_drew1) | exact HB.out)) hb); clear HB; have HB := n0_; clear n0_; (try clear hb); (try clear hb2); (try clear hk); (try clear hi)))
     go_ret
     exact ⟨by first | rfl | (simp [errW_none, errW_some] <;> rfl) | (simp [*, errW_none, errW_some] <;> rfl), by repeat (first | (with_reducible first | exact HB.out | apply below_alloc | apply pw_below_drewN | apply below_drew1) | exact HB.out)⟩
    ·rw [if_neg c7] at H
     have c7b0 : ((bt t148 3) == 17) = false := beq_eq_false_iff_ne.mpr c7
     have c7b1 : ((bt t148 3) != 17) = true := bne_iff_ne.mpr c7
     obtain rfl := Option.some.inj H
     go_enter Try.func5, Try.ntmps5
     go_wp2_with (first | ((with_reducible refine gate_callee (f := 15) rfl ?_); refine goesL_ (some 4) rfl rfl Try.func15 (by kernel_rfl) rfl #[] rfl (by (try simp only [List.map_toArray, List.map_cons, List.map_nil]); first | done | rfl | (simp only [List.length_drop, List.length_take]; rfl)) ?_; (with_reducible refine (xid_Usual.calls  t142 t143 t144 t145 t146 t147 _ A1.out).mono ?_); rintro e w12 ⟨rfl, hb⟩; refine ⟨_, rfl, ?_⟩; have n0_ := Aside0.mk (below_step (by repeat (first | (with_reducible first | exact HB.out | apply below_alloc | apply pw_below_drewN | apply below_drew1) | exact HB.out)) hb); clear HB; have HB := n0_; clear n0_; (try clear hb); (try clear hb2); (try clear hk); (try clear hi)) | ((with_reducible refine gate_callee (f := 10) rfl ?_); refine goesL_ (some 5) rfl rfl Try.func10 (by kernel_rfl) rfl #[.agg #[.bool t142, .bool t143, .int .i64 t144, .int .i64 t145, .int .i64 t146, .int .i64 t147]] rfl (by (try simp only [List.map_toArray, List.map_cons, List.map_nil]); first | done | rfl | (simp only [List.length_drop, List.length_take]; rfl)) ?_; (with_reducible refine (xid_Put.calls k t142 t143 t144 t145 t146 t147 t148 t149 _ A2.out).mono ?_); rintro e w13 ⟨rfl, hb⟩; refine ⟨_, rfl, ?_⟩; have n0_ := Aside0.mk (below_step (by repeat (first | (with_reducible first | exact HB.out | apply below_alloc | apply pw_below_drewN | apply below_drew1) | exact HB.out)) hb); clear HB; have HB := n0_; clear n0_; (try clear hb); (try clear hb2); (try clear hk); (try clear hi); have p6 : 0 ≤ (3 : Int) := (by omega); have q6 : 3 < t148.size := (by have : (3 : Int) < (t148.size : Int) := of_decide_eq_true (by first | (with_reducible assumption) | assumption); omega); have hx6 : ∀ h : 3 < t148.size, ((t148[3]'h).toNat : Int) = bt t148 3 := bt_at t148 3; clear p6; have qi6 : (3 < (t148.size : Int)) = True := eq_true (of_decide_eq_true (by first | (with_reducible assumption) | assumption)); replace q6 := eq_true q6))
     go_ret
     exact ⟨by first | rfl | (simp [errW_none, errW_some] <;> rfl) | (simp [*, errW_none, errW_some] <;> rfl), by repeat (first | (with_reducible first | exact HB.out | apply below_alloc | apply pw_below_drewN | apply below_drew1) | exact HB.out)⟩
   ·rw [if_neg c5] at H
    exact absurd H (by simp)
  ·rw [if_neg c4] at H
   have c4b0 : ((t148.size : Int) == 21) = false := beq_eq_false_iff_ne.mpr c4
   have c4b1 : ((t148.size : Int) != 21) = true := bne_iff_ne.mpr c4
   obtain rfl := Option.some.inj H
   go_enter Try.func5, Try.ntmps5
   go_wp2_with (first | ((with_reducible refine gate_callee (f := 15) rfl ?_); refine goesL_ (some 4) rfl rfl Try.func15 (by kernel_rfl) rfl #[] rfl (by (try simp only [List.map_toArray, List.map_cons, List.map_nil]); first | done | rfl | (simp only [List.length_drop, List.length_take]; rfl)) ?_; (with_reducible refine (xid_Usual.calls  t142 t143 t144 t145 t146 t147 _ A1.out).mono ?_); rintro e w14 ⟨rfl, hb⟩; refine ⟨_, rfl, ?_⟩; have n0_ := Aside0.mk (below_step (by repeat (first | (with_reducible first | exact HB.out | apply below_alloc | apply pw_below_drewN | apply below_drew1) | exact HB.out)) hb); clear HB; have HB := n0_; clear n0_; (try clear hb); (try clear hb2); (try clear hk); (try clear hi)) | ((with_reducible refine gate_callee (f := 10) rfl ?_); refine goesL_ (some 5) rfl rfl Try.func10 (by kernel_rfl) rfl #[.agg #[.bool t142, .bool t143, .int .i64 t144, .int .i64 t145, .int .i64 t146, .int .i64 t147]] rfl (by (try simp only [List.map_toArray, List.map_cons, List.map_nil]); first | done | rfl | (simp only [List.length_drop, List.length_take]; rfl)) ?_; (with_reducible refine (xid_Put.calls k t142 t143 t144 t145 t146 t147 t148 t149 _ A2.out).mono ?_); rintro e w15 ⟨rfl, hb⟩; refine ⟨_, rfl, ?_⟩; have n0_ := Aside0.mk (below_step (by repeat (first | (with_reducible first | exact HB.out | apply below_alloc | apply pw_below_drewN | apply below_drew1) | exact HB.out)) hb); clear HB; have HB := n0_; clear n0_; (try clear hb); (try clear hb2); (try clear hk); (try clear hi)))
   go_ret
   exact ⟨by first | rfl | (simp [errW_none, errW_some] <;> rfl) | (simp [*, errW_none, errW_some] <;> rfl), by repeat (first | (with_reducible first | exact HB.out | apply below_alloc | apply pw_below_drewN | apply below_drew1) | exact HB.out)⟩
 ·rw [if_neg c3] at H
  have c3b0 : (t149 == 0) = false := beq_eq_false_iff_ne.mpr c3
  have c3b1 : (t149 != 0) = true := bne_iff_ne.mpr c3
  obtain rfl := Option.some.inj H
  go_enter Try.func5, Try.ntmps5
  go_wp2_with (first | ((with_reducible refine gate_callee (f := 15) rfl ?_); refine goesL_ (some 4) rfl rfl Try.func15 (by kernel_rfl) rfl #[] rfl (by (try simp only [List.map_toArray, List.map_cons, List.map_nil]); first | done | rfl | (simp only [List.length_drop, List.length_take]; rfl)) ?_; (with_reducible refine (xid_Usual.calls  t142 t143 t144 t145 t146 t147 _ A1.out).mono ?_); rintro e w16 ⟨rfl, hb⟩; refine ⟨_, rfl, ?_⟩; have n0_ := Aside0.mk (below_step (by repeat (first | (with_reducible first | exact HB.out | apply below_alloc | apply pw_below_drewN | apply below_drew1) | exact HB.out)) hb); clear HB; have HB := n0_; clear n0_; (try clear hb); (try clear hb2); (try clear hk); (try clear hi)) | ((with_reducible refine gate_callee (f := 10) rfl ?_); refine goesL_ (some 5) rfl rfl Try.func10 (by kernel_rfl) rfl #[.agg #[.bool t142, .bool t143, .int .i64 t144, .int .i64 t145, .int .i64 t146, .int .i64 t147]] rfl (by (try simp only [List.map_toArray, List.map_cons, List.map_nil]); first | done | rfl | (simp only [List.length_drop, List.length_take]; rfl)) ?_; (with_reducible refine (xid_Put.calls k t142 t143 t144 t145 t146 t147 t148 t149 _ A2.out).mono ?_); rintro e w17 ⟨rfl, hb⟩; refine ⟨_, rfl, ?_⟩; have n0_ := Aside0.mk (below_step (by repeat (first | (with_reducible first | exact HB.out | apply below_alloc | apply pw_below_drewN | apply below_drew1) | exact HB.out)) hb); clear HB; have HB := n0_; clear n0_; (try clear hb); (try clear hb2); (try clear hk); (try clear hi)))
  go_ret
  exact ⟨by first | rfl | (simp [errW_none, errW_some] <;> rfl) | (simp [*, errW_none, errW_some] <;> rfl), by repeat (first | (with_reducible first | exact HB.out | apply below_alloc | apply pw_below_drewN | apply below_drew1) | exact HB.out)⟩

end Go.Proofs.Ytpmieapgbdbabaa.QXidPuts
end

section
/- Walks, written by a program of this session (wip/pp): a Go function comes to what the Lean function beside it tells. -/
namespace Go.Proofs.Ytpmieapgbdbabaa.QXidPuts
open Go.RowKit Go.Proofs.YtpmieapgbdbabaaW.PrintWords Go.Proofs.YtpmieapgbdbabaaW.PrintLast Go.Proofs.YtpmieapgbdbabaaW.PrintMore
attribute [local go_sem] max2_int min2_int max_two min_two max_three min_three max_four min_four
set_option linter.unusedVariables false
set_option linter.unusedSimpArgs false

def squelchref08_Most.j0 : Nat → Bool → Bool → Bool → Option (Int)
 | 0, _, _, _ => none
 | k + 1, x0, x1, x8 => if x8 = true then (some 32) else (if x0 = true then (some 63) else (if x1 = true then (some 4) else (some 7)))
def squelchref08_Most.f (k : Nat) (a0 : Bool) (a1 : Bool) : Option (Int) := if a0 = true then (squelchref08_Most.j0 k a0 a1 a1) else (squelchref08_Most.j0 k a0 a1 false)
set_option maxHeartbeats 8000000 in
set_option maxRecDepth 100000 in
theorem squelchref08_Most.calls (k : Nat) (a0 : Bool) (a1 : Bool) (r : Int) (w : World) (h : squelchref08_Most.f k a0 a1 = some r) :
  Calls Try.prog 12 #[.bool a0, .bool a1] w fun e w' => e = .returned (.int .i64 r) ∧ Drawn0 w w' := by
 have H : (if a0 = true then (squelchref08_Most.j0 k a0 a1 a1) else (squelchref08_Most.j0 k a0 a1 false)) = some r := h
 clear h
 have HC3 := Aside0.mk H
 clear H
 go_enter Try.func12, Try.ntmps12
 go_upto_region 1 with (fail)
 go_cut [8] (fun v8 wc => ∃ (kq : Nat) (x8_2 : Bool), v8 = .bool x8_2 ∧ Aside0 (squelchref08_Most.j0 kq a0 a1 x8_2 = some r) ∧ Aside0 (kq ≤ k) ∧ Drawn0 w wc)
 case first =>
  have H := HC3.out
  clear HC3
  by_cases c4 : a0 = true
  ·subst c4
   have H1 : (squelchref08_Most.j0 k true a1 a1) = some r := by rw [if_pos rfl] at H; exact H
   clear H
   have H := H1
   clear H1
   have H' := Aside0.mk H
   clear H
   go_wp2
   go_meet
   case rel => exact ⟨_, (a1), (by first | rfl | (simp; done) | (simp [*]; done) | (simp; exact (fun l : List UInt8 => (by cases l <;> rfl : l.isEmpty = !(l != []))) _)), H', ⟨by first | omega | exact Nat.le_refl _⟩, by repeat (first | exact Drawn0.refl _ | apply Drawn0.step)⟩
  ·replace c4 := Bool.eq_false_iff.mpr c4
   subst c4
   have H1 : (squelchref08_Most.j0 k false a1 false) = some r := by rw [if_neg (show ¬ (false = true) by decide)] at H; exact H
   clear H
   have H := H1
   clear H1
   have H' := Aside0.mk H
   clear H
   go_wp2
   go_meet
   case rel => exact ⟨_, (false), (by first | rfl | (simp; done) | (simp [*]; done) | (simp; exact (fun l : List UInt8 => (by cases l <;> rfl : l.isEmpty = !(l != []))) _)), H', ⟨by first | omega | exact Nat.le_refl _⟩, by repeat (first | exact Drawn0.refl _ | apply Drawn0.step)⟩
 case rest =>
  clear HC3
  try clear c1
  try clear p2
  try clear c4
  obtain ⟨kq, x8_2, rfl, HA, HJ2, ⟨mc2, rfl⟩⟩ := hcut
  cases kq with
  | zero => exact absurd HA.out (by simp [squelchref08_Most.j0])
  | succ kj2 =>
   have H := HA.out
   clear HA
   simp only [squelchref08_Most.j0] at H
   by_cases c5 : x8_2 = true
   ·subst c5
    have H1 : (some 32) = some r := by rw [if_pos rfl] at H; exact H
    clear H
    have H := H1
    clear H1
    obtain rfl := Option.some.inj H
    go_wp2
    go_ret
    exact ⟨by first | rfl | (simp; done) | (simp [*]; done) | (simp; exact (fun l : List UInt8 => (by cases l <;> rfl : l.isEmpty = !(l != []))) _), by repeat (first | exact Drawn0.refl _ | apply Drawn0.step)⟩
   ·replace c5 := Bool.eq_false_iff.mpr c5
    subst c5
    have H1 : (if a0 = true then (some 63) else (if a1 = true then (some 4) else (some 7))) = some r := by rw [if_neg (show ¬ (false = true) by decide)] at H; exact H
    clear H
    have H := H1
    clear H1
    by_cases c6 : a0 = true
    ·subst c6
     have H1 : (some 63) = some r := by rw [if_pos rfl] at H; exact H
     clear H
     have H := H1
     clear H1
     obtain rfl := Option.some.inj H
     go_wp2
     go_ret
     exact ⟨by first | rfl | (simp; done) | (simp [*]; done) | (simp; exact (fun l : List UInt8 => (by cases l <;> rfl : l.isEmpty = !(l != []))) _), by repeat (first | exact Drawn0.refl _ | apply Drawn0.step)⟩
    ·replace c6 := Bool.eq_false_iff.mpr c6
     subst c6
     have H1 : (if a1 = true then (some 4) else (some 7)) = some r := by rw [if_neg (show ¬ (false = true) by decide)] at H; exact H
     clear H
     have H := H1
     clear H1
     by_cases c7 : a1 = true
     ·subst c7
      have H1 : (some 4) = some r := by rw [if_pos rfl] at H; exact H
      clear H
      have H := H1
      clear H1
      obtain rfl := Option.some.inj H
      go_wp2
      go_ret
      exact ⟨by first | rfl | (simp; done) | (simp [*]; done) | (simp; exact (fun l : List UInt8 => (by cases l <;> rfl : l.isEmpty = !(l != []))) _), by repeat (first | exact Drawn0.refl _ | apply Drawn0.step)⟩
     ·replace c7 := Bool.eq_false_iff.mpr c7
      subst c7
      have H1 : (some 7) = some r := by rw [if_neg (show ¬ (false = true) by decide)] at H; exact H
      clear H
      have H := H1
      clear H1
      obtain rfl := Option.some.inj H
      go_wp2
      go_ret
      exact ⟨by first | rfl | (simp; done) | (simp [*]; done) | (simp; exact (fun l : List UInt8 => (by cases l <;> rfl : l.isEmpty = !(l != []))) _), by repeat (first | exact Drawn0.refl _ | apply Drawn0.step)⟩

end Go.Proofs.Ytpmieapgbdbabaa.QXidPuts
end
