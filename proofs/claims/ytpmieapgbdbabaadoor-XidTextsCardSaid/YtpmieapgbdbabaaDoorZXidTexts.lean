/- The row of the law XidTexts, out of its walks and its plain law. -/
import Derived.Test.YtpmieapgbdbabaaDoorMXidTexts0
import Derived.Shelf.Strings.Builder1
import Derived.Shelf.Strings.Builder2
import Derived.Shelf.Strings.OnBuilder
import Derived.Shelf.Strings.Trim
import Derived.Shelf.Small.Utf8
import Derived.Shelf.Small.Strs
import Derived.Shelf.Small.Wraps
import Derived.Shelf.Strings.BuilderF
import Derived.Shelf.Utf8.RuneCount
import Derived.Shelf.Strconv.Atoi
import Derived.Shelf.Strconv.Itoa0
import Derived.Shelf.Strconv.Itoa1
import Derived.Shelf.LaysM
import Derived.Shelf.Strconv.Itoa2
import Derived.Shelf.Strconv.Itoa3
import Derived.Shelf.Strconv.AtoiErrFast
import Derived.Shelf.Strconv.ParseIntEmpty
import Derived.Shelf.Strconv.AtoiFail
import Derived.Shelf.Strconv.Clone
import Derived.Shelf.Strconv.SyntaxError
import Derived.Shelf.LaysC
import Derived.Shelf.Strconv.ToError
import Derived.Shelf.Strconv.AtoiErr
import Derived.Shelf.Strconv.ErrVar
import Derived.Shelf.Strconv.Lower
import Derived.Shelf.Strconv.ParseUint10
import Derived.Shelf.Strconv.ParseUint10Empty
import Derived.Shelf.Strconv.ParseUint10Any
import Derived.Shelf.Strconv.ParseInt10
import Derived.Shelf.Strconv.AtoiLong
import Derived.Shelf.Strconv.AtoiInnerAll
import Derived.Shelf.Strconv.RangeError
import Derived.Shelf.Strconv.ToErrorRange
import Derived.Shelf.Strconv.AtoiAll
import Derived.Shelf.Strconv.ErrVarAll
import Derived.Shelf.Strings.Search1
import Derived.Shelf.Strings.Search2
import Derived.Shelf.Strings.Search3
import Derived.Shelf.Strings.Cut
import Derived.Shelf.Strings.Count
import Derived.Shelf.Strings.Shaped
import Derived.Shelf.Strings.Prefix
import Derived.Shelf.Strings.Split
import Derived.Shelf.Strings.SplitShaped
import Derived.Shelf.Unicode.Decode
import Derived.Shelf.Strings.Runes
import Derived.Shelf.Strings.RuneCount
import Derived.Shelf.Strings.AsciiSet
import Derived.Shelf.Strings.Explode
import Derived.Shelf.Unicode.DecodeSlow
import Derived.Shelf.Unicode.DecodeAny
import Derived.Shelf.Unicode.DecodeLast
import Derived.Test.YtpmieapgbdbabaaDoorProg
import Derived.Lib.AppendIntMem
import Derived.Deep.RegionWith
import Derived.RegionTactic
import Derived.WalkSpells
import Derived.ScopeJumps
import Derived.Laws.DeepStrings4
import Derived.Lib.IndexLaws
import Derived.KernelRfl
import Derived.Test.YtpmieapgbdbabaaDoorMXidTexts1
import Derived.Test.YtpmieapgbdbabaaDoorMXidTexts2
import Derived.Test.YtpmieapgbdbabaaDoorRows
import Derived.Lib.LaidU8
import Derived.Lay
import Derived.Handed
import Derived.SizedLaws
import Derived.LaidLaws
import Derived.Shelf.Vars
import Derived.LaidHandle
import Derived.Stop.Joined
import Derived.Test.YtpmieapgbdbabaaDoorTie
import Derived.Test.YtpmieapgbdbabaaDoorCards
import Derived.WalkKit
import Derived.ProofKit
import Derived.OpenShut
import Derived.ShutString
import Derived.ChangeOld
import Derived.Below
import Derived.Lib.SmallJoins
import Derived.Deep.Slices
import Derived.Deep.Fields
import Derived.ChangeSame
section
/- Walks, written by a program of this session (wip/pp): a Go function comes to what the Lean function beside it tells. -/
namespace Go.Proofs.YtpmieapgbdbabaaDoor.QAll
open Go.RowKit Go.Proofs.YtpmieapgbdbabaaDoorW.PrintWords Go.Proofs.YtpmieapgbdbabaaDoorW.PrintLast Go.Proofs.YtpmieapgbdbabaaDoorW.PrintMore
attribute [local go_sem] max2_int min2_int max_two min_two max_three min_three max_four min_four
set_option linter.unusedVariables false
set_option linter.unusedSimpArgs false

def squelchref08_digits.f (a0 : Int) : Option (ByteArray) := if 0 ≤ (Int.tmod a0 10) then (if (Int.tmod a0 10) ≤ (wrap64 ((Int.tmod a0 10) + 1)) then (if (wrap64 ((Int.tmod a0 10) + 1)) ≤ 10 then (if a0 ≥ 10 then (if 0 ≤ (Int.tmod (wrap64 (Int.tdiv a0 10)) 10) then (if (Int.tmod (wrap64 (Int.tdiv a0 10)) 10) ≤ (wrap64 ((Int.tmod (wrap64 (Int.tdiv a0 10)) 10) + 1)) then (if (wrap64 ((Int.tmod (wrap64 (Int.tdiv a0 10)) 10) + 1)) ≤ 10 then (if ((⟨#[48, 49, 50, 51, 52, 53, 54, 55, 56, 57]⟩ : ByteArray).extract ((Int.tmod (wrap64 (Int.tdiv a0 10)) 10) : Int).toNat ((wrap64 ((Int.tmod (wrap64 (Int.tdiv a0 10)) 10) + 1)) : Int).toNat).size + ((⟨#[48, 49, 50, 51, 52, 53, 54, 55, 56, 57]⟩ : ByteArray).extract ((Int.tmod a0 10) : Int).toNat ((wrap64 ((Int.tmod a0 10) + 1)) : Int).toNat).size ≤ 9223372036854775807 then (if a0 ≥ 100 then (if 0 ≤ (wrap64 (Int.tdiv a0 100)) then (if (wrap64 (Int.tdiv a0 100)) ≤ (wrap64 ((wrap64 (Int.tdiv a0 100)) + 1)) then (if (wrap64 ((wrap64 (Int.tdiv a0 100)) + 1)) ≤ 10 then (if ((⟨#[48, 49, 50, 51, 52, 53, 54, 55, 56, 57]⟩ : ByteArray).extract ((wrap64 (Int.tdiv a0 100)) : Int).toNat ((wrap64 ((wrap64 (Int.tdiv a0 100)) + 1)) : Int).toNat).size + (((⟨#[48, 49, 50, 51, 52, 53, 54, 55, 56, 57]⟩ : ByteArray).extract ((Int.tmod (wrap64 (Int.tdiv a0 10)) 10) : Int).toNat ((wrap64 ((Int.tmod (wrap64 (Int.tdiv a0 10)) 10) + 1)) : Int).toNat) ++ ((⟨#[48, 49, 50, 51, 52, 53, 54, 55, 56, 57]⟩ : ByteArray).extract ((Int.tmod a0 10) : Int).toNat ((wrap64 ((Int.tmod a0 10) + 1)) : Int).toNat)).size ≤ 9223372036854775807 then (some (((⟨#[48, 49, 50, 51, 52, 53, 54, 55, 56, 57]⟩ : ByteArray).extract ((wrap64 (Int.tdiv a0 100)) : Int).toNat ((wrap64 ((wrap64 (Int.tdiv a0 100)) + 1)) : Int).toNat) ++ (((⟨#[48, 49, 50, 51, 52, 53, 54, 55, 56, 57]⟩ : ByteArray).extract ((Int.tmod (wrap64 (Int.tdiv a0 10)) 10) : Int).toNat ((wrap64 ((Int.tmod (wrap64 (Int.tdiv a0 10)) 10) + 1)) : Int).toNat) ++ ((⟨#[48, 49, 50, 51, 52, 53, 54, 55, 56, 57]⟩ : ByteArray).extract ((Int.tmod a0 10) : Int).toNat ((wrap64 ((Int.tmod a0 10) + 1)) : Int).toNat)))) else (none)) else (none)) else (none)) else (none)) else (some (((⟨#[48, 49, 50, 51, 52, 53, 54, 55, 56, 57]⟩ : ByteArray).extract ((Int.tmod (wrap64 (Int.tdiv a0 10)) 10) : Int).toNat ((wrap64 ((Int.tmod (wrap64 (Int.tdiv a0 10)) 10) + 1)) : Int).toNat) ++ ((⟨#[48, 49, 50, 51, 52, 53, 54, 55, 56, 57]⟩ : ByteArray).extract ((Int.tmod a0 10) : Int).toNat ((wrap64 ((Int.tmod a0 10) + 1)) : Int).toNat)))) else (none)) else (none)) else (none)) else (none)) else (if a0 ≥ 100 then (if 0 ≤ (wrap64 (Int.tdiv a0 100)) then (if (wrap64 (Int.tdiv a0 100)) ≤ (wrap64 ((wrap64 (Int.tdiv a0 100)) + 1)) then (if (wrap64 ((wrap64 (Int.tdiv a0 100)) + 1)) ≤ 10 then (if ((⟨#[48, 49, 50, 51, 52, 53, 54, 55, 56, 57]⟩ : ByteArray).extract ((wrap64 (Int.tdiv a0 100)) : Int).toNat ((wrap64 ((wrap64 (Int.tdiv a0 100)) + 1)) : Int).toNat).size + ((⟨#[48, 49, 50, 51, 52, 53, 54, 55, 56, 57]⟩ : ByteArray).extract ((Int.tmod a0 10) : Int).toNat ((wrap64 ((Int.tmod a0 10) + 1)) : Int).toNat).size ≤ 9223372036854775807 then (some (((⟨#[48, 49, 50, 51, 52, 53, 54, 55, 56, 57]⟩ : ByteArray).extract ((wrap64 (Int.tdiv a0 100)) : Int).toNat ((wrap64 ((wrap64 (Int.tdiv a0 100)) + 1)) : Int).toNat) ++ ((⟨#[48, 49, 50, 51, 52, 53, 54, 55, 56, 57]⟩ : ByteArray).extract ((Int.tmod a0 10) : Int).toNat ((wrap64 ((Int.tmod a0 10) + 1)) : Int).toNat))) else (none)) else (none)) else (none)) else (none)) else (some ((⟨#[48, 49, 50, 51, 52, 53, 54, 55, 56, 57]⟩ : ByteArray).extract ((Int.tmod a0 10) : Int).toNat ((wrap64 ((Int.tmod a0 10) + 1)) : Int).toNat)))) else (none)) else (none)) else (none)
set_option maxHeartbeats 8000000 in
set_option maxRecDepth 100000 in
theorem squelchref08_digits.calls (a0 : Int) (r : ByteArray) (w : World) (h : squelchref08_digits.f a0 = some r) :
  Calls Tryd.prog 80 #[.int .i64 a0] w fun e w' => e = .returned (.string r) ∧ Drawn0 w w' := by
 have H : (if 0 ≤ (Int.tmod a0 10) then (if (Int.tmod a0 10) ≤ (wrap64 ((Int.tmod a0 10) + 1)) then (if (wrap64 ((Int.tmod a0 10) + 1)) ≤ 10 then (if a0 ≥ 10 then (if 0 ≤ (Int.tmod (wrap64 (Int.tdiv a0 10)) 10) then (if (Int.tmod (wrap64 (Int.tdiv a0 10)) 10) ≤ (wrap64 ((Int.tmod (wrap64 (Int.tdiv a0 10)) 10) + 1)) then (if (wrap64 ((Int.tmod (wrap64 (Int.tdiv a0 10)) 10) + 1)) ≤ 10 then (if ((⟨#[48, 49, 50, 51, 52, 53, 54, 55, 56, 57]⟩ : ByteArray).extract ((Int.tmod (wrap64 (Int.tdiv a0 10)) 10) : Int).toNat ((wrap64 ((Int.tmod (wrap64 (Int.tdiv a0 10)) 10) + 1)) : Int).toNat).size + ((⟨#[48, 49, 50, 51, 52, 53, 54, 55, 56, 57]⟩ : ByteArray).extract ((Int.tmod a0 10) : Int).toNat ((wrap64 ((Int.tmod a0 10) + 1)) : Int).toNat).size ≤ 9223372036854775807 then (if a0 ≥ 100 then (if 0 ≤ (wrap64 (Int.tdiv a0 100)) then (if (wrap64 (Int.tdiv a0 100)) ≤ (wrap64 ((wrap64 (Int.tdiv a0 100)) + 1)) then (if (wrap64 ((wrap64 (Int.tdiv a0 100)) + 1)) ≤ 10 then (if ((⟨#[48, 49, 50, 51, 52, 53, 54, 55, 56, 57]⟩ : ByteArray).extract ((wrap64 (Int.tdiv a0 100)) : Int).toNat ((wrap64 ((wrap64 (Int.tdiv a0 100)) + 1)) : Int).toNat).size + (((⟨#[48, 49, 50, 51, 52, 53, 54, 55, 56, 57]⟩ : ByteArray).extract ((Int.tmod (wrap64 (Int.tdiv a0 10)) 10) : Int).toNat ((wrap64 ((Int.tmod (wrap64 (Int.tdiv a0 10)) 10) + 1)) : Int).toNat) ++ ((⟨#[48, 49, 50, 51, 52, 53, 54, 55, 56, 57]⟩ : ByteArray).extract ((Int.tmod a0 10) : Int).toNat ((wrap64 ((Int.tmod a0 10) + 1)) : Int).toNat)).size ≤ 9223372036854775807 then (some (((⟨#[48, 49, 50, 51, 52, 53, 54, 55, 56, 57]⟩ : ByteArray).extract ((wrap64 (Int.tdiv a0 100)) : Int).toNat ((wrap64 ((wrap64 (Int.tdiv a0 100)) + 1)) : Int).toNat) ++ (((⟨#[48, 49, 50, 51, 52, 53, 54, 55, 56, 57]⟩ : ByteArray).extract ((Int.tmod (wrap64 (Int.tdiv a0 10)) 10) : Int).toNat ((wrap64 ((Int.tmod (wrap64 (Int.tdiv a0 10)) 10) + 1)) : Int).toNat) ++ ((⟨#[48, 49, 50, 51, 52, 53, 54, 55, 56, 57]⟩ : ByteArray).extract ((Int.tmod a0 10) : Int).toNat ((wrap64 ((Int.tmod a0 10) + 1)) : Int).toNat)))) else (none)) else (none)) else (none)) else (none)) else (some (((⟨#[48, 49, 50, 51, 52, 53, 54, 55, 56, 57]⟩ : ByteArray).extract ((Int.tmod (wrap64 (Int.tdiv a0 10)) 10) : Int).toNat ((wrap64 ((Int.tmod (wrap64 (Int.tdiv a0 10)) 10) + 1)) : Int).toNat) ++ ((⟨#[48, 49, 50, 51, 52, 53, 54, 55, 56, 57]⟩ : ByteArray).extract ((Int.tmod a0 10) : Int).toNat ((wrap64 ((Int.tmod a0 10) + 1)) : Int).toNat)))) else (none)) else (none)) else (none)) else (none)) else (if a0 ≥ 100 then (if 0 ≤ (wrap64 (Int.tdiv a0 100)) then (if (wrap64 (Int.tdiv a0 100)) ≤ (wrap64 ((wrap64 (Int.tdiv a0 100)) + 1)) then (if (wrap64 ((wrap64 (Int.tdiv a0 100)) + 1)) ≤ 10 then (if ((⟨#[48, 49, 50, 51, 52, 53, 54, 55, 56, 57]⟩ : ByteArray).extract ((wrap64 (Int.tdiv a0 100)) : Int).toNat ((wrap64 ((wrap64 (Int.tdiv a0 100)) + 1)) : Int).toNat).size + ((⟨#[48, 49, 50, 51, 52, 53, 54, 55, 56, 57]⟩ : ByteArray).extract ((Int.tmod a0 10) : Int).toNat ((wrap64 ((Int.tmod a0 10) + 1)) : Int).toNat).size ≤ 9223372036854775807 then (some (((⟨#[48, 49, 50, 51, 52, 53, 54, 55, 56, 57]⟩ : ByteArray).extract ((wrap64 (Int.tdiv a0 100)) : Int).toNat ((wrap64 ((wrap64 (Int.tdiv a0 100)) + 1)) : Int).toNat) ++ ((⟨#[48, 49, 50, 51, 52, 53, 54, 55, 56, 57]⟩ : ByteArray).extract ((Int.tmod a0 10) : Int).toNat ((wrap64 ((Int.tmod a0 10) + 1)) : Int).toNat))) else (none)) else (none)) else (none)) else (none)) else (some ((⟨#[48, 49, 50, 51, 52, 53, 54, 55, 56, 57]⟩ : ByteArray).extract ((Int.tmod a0 10) : Int).toNat ((wrap64 ((Int.tmod a0 10) + 1)) : Int).toNat)))) else (none)) else (none)) else (none)) = some r := h
 clear h
 obtain ⟨ji2, hji2⟩ : ∃ j_ : Int, (Int.tmod a0 10) = j_ := ⟨_, rfl⟩
 replace H : (if 0 ≤ (ji2) then (if (ji2) ≤ (wrap64 ((ji2) + 1)) then (if (wrap64 ((ji2) + 1)) ≤ 10 then (if a0 ≥ 10 then (if 0 ≤ (Int.tmod (wrap64 (Int.tdiv a0 10)) 10) then (if (Int.tmod (wrap64 (Int.tdiv a0 10)) 10) ≤ (wrap64 ((Int.tmod (wrap64 (Int.tdiv a0 10)) 10) + 1)) then (if (wrap64 ((Int.tmod (wrap64 (Int.tdiv a0 10)) 10) + 1)) ≤ 10 then (if ((⟨#[48, 49, 50, 51, 52, 53, 54, 55, 56, 57]⟩ : ByteArray).extract ((Int.tmod (wrap64 (Int.tdiv a0 10)) 10) : Int).toNat ((wrap64 ((Int.tmod (wrap64 (Int.tdiv a0 10)) 10) + 1)) : Int).toNat).size + ((⟨#[48, 49, 50, 51, 52, 53, 54, 55, 56, 57]⟩ : ByteArray).extract ((ji2) : Int).toNat ((wrap64 ((ji2) + 1)) : Int).toNat).size ≤ 9223372036854775807 then (if a0 ≥ 100 then (if 0 ≤ (wrap64 (Int.tdiv a0 100)) then (if (wrap64 (Int.tdiv a0 100)) ≤ (wrap64 ((wrap64 (Int.tdiv a0 100)) + 1)) then (if (wrap64 ((wrap64 (Int.tdiv a0 100)) + 1)) ≤ 10 then (if ((⟨#[48, 49, 50, 51, 52, 53, 54, 55, 56, 57]⟩ : ByteArray).extract ((wrap64 (Int.tdiv a0 100)) : Int).toNat ((wrap64 ((wrap64 (Int.tdiv a0 100)) + 1)) : Int).toNat).size + (((⟨#[48, 49, 50, 51, 52, 53, 54, 55, 56, 57]⟩ : ByteArray).extract ((Int.tmod (wrap64 (Int.tdiv a0 10)) 10) : Int).toNat ((wrap64 ((Int.tmod (wrap64 (Int.tdiv a0 10)) 10) + 1)) : Int).toNat) ++ ((⟨#[48, 49, 50, 51, 52, 53, 54, 55, 56, 57]⟩ : ByteArray).extract ((ji2) : Int).toNat ((wrap64 ((ji2) + 1)) : Int).toNat)).size ≤ 9223372036854775807 then (some (((⟨#[48, 49, 50, 51, 52, 53, 54, 55, 56, 57]⟩ : ByteArray).extract ((wrap64 (Int.tdiv a0 100)) : Int).toNat ((wrap64 ((wrap64 (Int.tdiv a0 100)) + 1)) : Int).toNat) ++ (((⟨#[48, 49, 50, 51, 52, 53, 54, 55, 56, 57]⟩ : ByteArray).extract ((Int.tmod (wrap64 (Int.tdiv a0 10)) 10) : Int).toNat ((wrap64 ((Int.tmod (wrap64 (Int.tdiv a0 10)) 10) + 1)) : Int).toNat) ++ ((⟨#[48, 49, 50, 51, 52, 53, 54, 55, 56, 57]⟩ : ByteArray).extract ((ji2) : Int).toNat ((wrap64 ((ji2) + 1)) : Int).toNat)))) else (none)) else (none)) else (none)) else (none)) else (some (((⟨#[48, 49, 50, 51, 52, 53, 54, 55, 56, 57]⟩ : ByteArray).extract ((Int.tmod (wrap64 (Int.tdiv a0 10)) 10) : Int).toNat ((wrap64 ((Int.tmod (wrap64 (Int.tdiv a0 10)) 10) + 1)) : Int).toNat) ++ ((⟨#[48, 49, 50, 51, 52, 53, 54, 55, 56, 57]⟩ : ByteArray).extract ((ji2) : Int).toNat ((wrap64 ((ji2) + 1)) : Int).toNat)))) else (none)) else (none)) else (none)) else (none)) else (if a0 ≥ 100 then (if 0 ≤ (wrap64 (Int.tdiv a0 100)) then (if (wrap64 (Int.tdiv a0 100)) ≤ (wrap64 ((wrap64 (Int.tdiv a0 100)) + 1)) then (if (wrap64 ((wrap64 (Int.tdiv a0 100)) + 1)) ≤ 10 then (if ((⟨#[48, 49, 50, 51, 52, 53, 54, 55, 56, 57]⟩ : ByteArray).extract ((wrap64 (Int.tdiv a0 100)) : Int).toNat ((wrap64 ((wrap64 (Int.tdiv a0 100)) + 1)) : Int).toNat).size + ((⟨#[48, 49, 50, 51, 52, 53, 54, 55, 56, 57]⟩ : ByteArray).extract ((ji2) : Int).toNat ((wrap64 ((ji2) + 1)) : Int).toNat).size ≤ 9223372036854775807 then (some (((⟨#[48, 49, 50, 51, 52, 53, 54, 55, 56, 57]⟩ : ByteArray).extract ((wrap64 (Int.tdiv a0 100)) : Int).toNat ((wrap64 ((wrap64 (Int.tdiv a0 100)) + 1)) : Int).toNat) ++ ((⟨#[48, 49, 50, 51, 52, 53, 54, 55, 56, 57]⟩ : ByteArray).extract ((ji2) : Int).toNat ((wrap64 ((ji2) + 1)) : Int).toNat))) else (none)) else (none)) else (none)) else (none)) else (some ((⟨#[48, 49, 50, 51, 52, 53, 54, 55, 56, 57]⟩ : ByteArray).extract ((ji2) : Int).toNat ((wrap64 ((ji2) + 1)) : Int).toNat)))) else (none)) else (none)) else (none)) = some r := by first | (rw [hji2] at H; exact H) | (simp only [hji2] at H ⊢; exact H)
 by_cases c3 : 0 ≤ (ji2)
 ·rw [if_pos c3] at H
  have c3b0 := eq_true c3
  have c3b1 : decide (0 ≤ (ji2)) = true := decide_eq_true c3
  clear c3
  by_cases c4 : (ji2) ≤ (wrap64 ((ji2) + 1))
  ·rw [if_pos c4] at H
   have c4b0 := eq_true c4
   have c4b1 : decide ((ji2) ≤ (wrap64 ((ji2) + 1))) = true := decide_eq_true c4
   by_cases c5 : (wrap64 ((ji2) + 1)) ≤ 10
   ·rw [if_pos c5] at H
    have c5b0 := eq_true c5
    have c5b1 : decide ((wrap64 ((ji2) + 1)) ≤ 10) = true := decide_eq_true c5
    by_cases c6 : a0 ≥ 10
    ·rw [if_pos c6] at H
     have c6b0 : decide (10 ≤ a0) = true := decide_eq_true c6
     clear c6
     obtain ⟨ji7, hji7⟩ : ∃ j_ : Int, (Int.tmod (wrap64 (Int.tdiv a0 10)) 10) = j_ := ⟨_, rfl⟩
     replace H : (if 0 ≤ (ji7) then (if (ji7) ≤ (wrap64 ((ji7) + 1)) then (if (wrap64 ((ji7) + 1)) ≤ 10 then (if ((⟨#[48, 49, 50, 51, 52, 53, 54, 55, 56, 57]⟩ : ByteArray).extract ((ji7) : Int).toNat ((wrap64 ((ji7) + 1)) : Int).toNat).size + ((⟨#[48, 49, 50, 51, 52, 53, 54, 55, 56, 57]⟩ : ByteArray).extract ((ji2) : Int).toNat ((wrap64 ((ji2) + 1)) : Int).toNat).size ≤ 9223372036854775807 then (if a0 ≥ 100 then (if 0 ≤ (wrap64 (Int.tdiv a0 100)) then (if (wrap64 (Int.tdiv a0 100)) ≤ (wrap64 ((wrap64 (Int.tdiv a0 100)) + 1)) then (if (wrap64 ((wrap64 (Int.tdiv a0 100)) + 1)) ≤ 10 then (if ((⟨#[48, 49, 50, 51, 52, 53, 54, 55, 56, 57]⟩ : ByteArray).extract ((wrap64 (Int.tdiv a0 100)) : Int).toNat ((wrap64 ((wrap64 (Int.tdiv a0 100)) + 1)) : Int).toNat).size + (((⟨#[48, 49, 50, 51, 52, 53, 54, 55, 56, 57]⟩ : ByteArray).extract ((ji7) : Int).toNat ((wrap64 ((ji7) + 1)) : Int).toNat) ++ ((⟨#[48, 49, 50, 51, 52, 53, 54, 55, 56, 57]⟩ : ByteArray).extract ((ji2) : Int).toNat ((wrap64 ((ji2) + 1)) : Int).toNat)).size ≤ 9223372036854775807 then (some (((⟨#[48, 49, 50, 51, 52, 53, 54, 55, 56, 57]⟩ : ByteArray).extract ((wrap64 (Int.tdiv a0 100)) : Int).toNat ((wrap64 ((wrap64 (Int.tdiv a0 100)) + 1)) : Int).toNat) ++ (((⟨#[48, 49, 50, 51, 52, 53, 54, 55, 56, 57]⟩ : ByteArray).extract ((ji7) : Int).toNat ((wrap64 ((ji7) + 1)) : Int).toNat) ++ ((⟨#[48, 49, 50, 51, 52, 53, 54, 55, 56, 57]⟩ : ByteArray).extract ((ji2) : Int).toNat ((wrap64 ((ji2) + 1)) : Int).toNat)))) else (none)) else (none)) else (none)) else (none)) else (some (((⟨#[48, 49, 50, 51, 52, 53, 54, 55, 56, 57]⟩ : ByteArray).extract ((ji7) : Int).toNat ((wrap64 ((ji7) + 1)) : Int).toNat) ++ ((⟨#[48, 49, 50, 51, 52, 53, 54, 55, 56, 57]⟩ : ByteArray).extract ((ji2) : Int).toNat ((wrap64 ((ji2) + 1)) : Int).toNat)))) else (none)) else (none)) else (none)) else (none)) = some r := by first | (rw [hji7] at H; exact H) | (simp only [hji7] at H ⊢; exact H)
     by_cases c8 : 0 ≤ (ji7)
     ·rw [if_pos c8] at H
      have c8b0 := eq_true c8
      have c8b1 : decide (0 ≤ (ji7)) = true := decide_eq_true c8
      clear c8
      by_cases c9 : (ji7) ≤ (wrap64 ((ji7) + 1))
      ·rw [if_pos c9] at H
       have c9b0 := eq_true c9
       have c9b1 : decide ((ji7) ≤ (wrap64 ((ji7) + 1))) = true := decide_eq_true c9
       by_cases c10 : (wrap64 ((ji7) + 1)) ≤ 10
       ·rw [if_pos c10] at H
        have c10b0 := eq_true c10
        have c10b1 : decide ((wrap64 ((ji7) + 1)) ≤ 10) = true := decide_eq_true c10
        by_cases c11 : ((⟨#[48, 49, 50, 51, 52, 53, 54, 55, 56, 57]⟩ : ByteArray).extract ((ji7) : Int).toNat ((wrap64 ((ji7) + 1)) : Int).toNat).size + ((⟨#[48, 49, 50, 51, 52, 53, 54, 55, 56, 57]⟩ : ByteArray).extract ((ji2) : Int).toNat ((wrap64 ((ji2) + 1)) : Int).toNat).size ≤ 9223372036854775807
        ·rw [if_pos c11] at H
         have c11b0 := eq_true c11
         have c11b1 : decide (((⟨#[48, 49, 50, 51, 52, 53, 54, 55, 56, 57]⟩ : ByteArray).extract ((ji7) : Int).toNat ((wrap64 ((ji7) + 1)) : Int).toNat).size + ((⟨#[48, 49, 50, 51, 52, 53, 54, 55, 56, 57]⟩ : ByteArray).extract ((ji2) : Int).toNat ((wrap64 ((ji2) + 1)) : Int).toNat).size ≤ 9223372036854775807) = true := decide_eq_true c11
         try have c11b2 : (9223372036854775807 < ((⟨#[48, 49, 50, 51, 52, 53, 54, 55, 56, 57]⟩ : ByteArray).extract ((ji7) : Int).toNat ((wrap64 ((ji7) + 1)) : Int).toNat).size + ((⟨#[48, 49, 50, 51, 52, 53, 54, 55, 56, 57]⟩ : ByteArray).extract ((ji2) : Int).toNat ((wrap64 ((ji2) + 1)) : Int).toNat).size) = False := eq_false (Nat.not_lt.2 c11)
         by_cases c12 : a0 ≥ 100
         ·rw [if_pos c12] at H
          have c12b0 : decide (100 ≤ a0) = true := decide_eq_true c12
          clear c12
          obtain ⟨ji13, hji13⟩ : ∃ j_ : Int, (wrap64 (Int.tdiv a0 100)) = j_ := ⟨_, rfl⟩
          replace H : (if 0 ≤ (ji13) then (if (ji13) ≤ (wrap64 ((ji13) + 1)) then (if (wrap64 ((ji13) + 1)) ≤ 10 then (if ((⟨#[48, 49, 50, 51, 52, 53, 54, 55, 56, 57]⟩ : ByteArray).extract ((ji13) : Int).toNat ((wrap64 ((ji13) + 1)) : Int).toNat).size + (((⟨#[48, 49, 50, 51, 52, 53, 54, 55, 56, 57]⟩ : ByteArray).extract ((ji7) : Int).toNat ((wrap64 ((ji7) + 1)) : Int).toNat) ++ ((⟨#[48, 49, 50, 51, 52, 53, 54, 55, 56, 57]⟩ : ByteArray).extract ((ji2) : Int).toNat ((wrap64 ((ji2) + 1)) : Int).toNat)).size ≤ 9223372036854775807 then (some (((⟨#[48, 49, 50, 51, 52, 53, 54, 55, 56, 57]⟩ : ByteArray).extract ((ji13) : Int).toNat ((wrap64 ((ji13) + 1)) : Int).toNat) ++ (((⟨#[48, 49, 50, 51, 52, 53, 54, 55, 56, 57]⟩ : ByteArray).extract ((ji7) : Int).toNat ((wrap64 ((ji7) + 1)) : Int).toNat) ++ ((⟨#[48, 49, 50, 51, 52, 53, 54, 55, 56, 57]⟩ : ByteArray).extract ((ji2) : Int).toNat ((wrap64 ((ji2) + 1)) : Int).toNat)))) else (none)) else (none)) else (none)) else (none)) = some r := by first | (rw [hji13] at H; exact H) | (simp only [hji13] at H ⊢; exact H)
          have hji13w : (IntKind.i64.wrap (Int.tdiv a0 100)) = ji13 := (i64_w _).trans hji13
          by_cases c14 : 0 ≤ (ji13)
          ·rw [if_pos c14] at H
           have c14b0 := eq_true c14
           have c14b1 : decide (0 ≤ (ji13)) = true := decide_eq_true c14
           clear c14
           by_cases c15 : (ji13) ≤ (wrap64 ((ji13) + 1))
           ·rw [if_pos c15] at H
            have c15b0 := eq_true c15
            have c15b1 : decide ((ji13) ≤ (wrap64 ((ji13) + 1))) = true := decide_eq_true c15
            by_cases c16 : (wrap64 ((ji13) + 1)) ≤ 10
            ·rw [if_pos c16] at H
             have c16b0 := eq_true c16
             have c16b1 : decide ((wrap64 ((ji13) + 1)) ≤ 10) = true := decide_eq_true c16
             by_cases c17 : ((⟨#[48, 49, 50, 51, 52, 53, 54, 55, 56, 57]⟩ : ByteArray).extract ((ji13) : Int).toNat ((wrap64 ((ji13) + 1)) : Int).toNat).size + (((⟨#[48, 49, 50, 51, 52, 53, 54, 55, 56, 57]⟩ : ByteArray).extract ((ji7) : Int).toNat ((wrap64 ((ji7) + 1)) : Int).toNat) ++ ((⟨#[48, 49, 50, 51, 52, 53, 54, 55, 56, 57]⟩ : ByteArray).extract ((ji2) : Int).toNat ((wrap64 ((ji2) + 1)) : Int).toNat)).size ≤ 9223372036854775807
             ·rw [if_pos c17] at H
              have c17b0 := eq_true c17
              have c17b1 : decide (((⟨#[48, 49, 50, 51, 52, 53, 54, 55, 56, 57]⟩ : ByteArray).extract ((ji13) : Int).toNat ((wrap64 ((ji13) + 1)) : Int).toNat).size + (((⟨#[48, 49, 50, 51, 52, 53, 54, 55, 56, 57]⟩ : ByteArray).extract ((ji7) : Int).toNat ((wrap64 ((ji7) + 1)) : Int).toNat) ++ ((⟨#[48, 49, 50, 51, 52, 53, 54, 55, 56, 57]⟩ : ByteArray).extract ((ji2) : Int).toNat ((wrap64 ((ji2) + 1)) : Int).toNat)).size ≤ 9223372036854775807) = true := decide_eq_true c17
              try have c17b2 : (9223372036854775807 < ((⟨#[48, 49, 50, 51, 52, 53, 54, 55, 56, 57]⟩ : ByteArray).extract ((ji13) : Int).toNat ((wrap64 ((ji13) + 1)) : Int).toNat).size + (((⟨#[48, 49, 50, 51, 52, 53, 54, 55, 56, 57]⟩ : ByteArray).extract ((ji7) : Int).toNat ((wrap64 ((ji7) + 1)) : Int).toNat) ++ ((⟨#[48, 49, 50, 51, 52, 53, 54, 55, 56, 57]⟩ : ByteArray).extract ((ji2) : Int).toNat ((wrap64 ((ji2) + 1)) : Int).toNat)).size) = False := eq_false (Nat.not_lt.2 c17)
              (try (have c17b5 := c17b2; simp only [ByteArray.size_append, show (⟨#[48, 49, 50, 51, 52, 53, 54, 55, 56, 57]⟩ : ByteArray).size = 10 from rfl] at c17b5))
              obtain rfl := Option.some.inj H
              go_enter Tryd.func80, Tryd.ntmps80
              go_wp2
              go_ret
              exact ⟨by first | rfl | (simp; done) | (simp only [← hji2, ← hji7, ← hji13] <;> (first | rfl | simp)) | (simp [*]; done), by repeat (first | exact Drawn0.refl _ | apply Drawn0.step)⟩
             ·rw [if_neg c17] at H
              exact absurd H (by simp)
            ·rw [if_neg c16] at H
             exact absurd H (by simp)
           ·rw [if_neg c15] at H
            exact absurd H (by simp)
          ·rw [if_neg c14] at H
           exact absurd H (by simp)
         ·rw [if_neg c12] at H
          have c12b0 : decide (100 ≤ a0) = false := decide_eq_false c12
          clear c12
          obtain rfl := Option.some.inj H
          go_enter Tryd.func80, Tryd.ntmps80
          go_wp2
          go_ret
          exact ⟨by first | rfl | (simp; done) | (simp only [← hji2, ← hji7] <;> (first | rfl | simp)) | (simp [*]; done), by repeat (first | exact Drawn0.refl _ | apply Drawn0.step)⟩
        ·rw [if_neg c11] at H
         exact absurd H (by simp)
       ·rw [if_neg c10] at H
        exact absurd H (by simp)
      ·rw [if_neg c9] at H
       exact absurd H (by simp)
     ·rw [if_neg c8] at H
      exact absurd H (by simp)
    ·rw [if_neg c6] at H
     have c6b0 : decide (10 ≤ a0) = false := decide_eq_false c6
     clear c6
     by_cases c18 : a0 ≥ 100
     ·rw [if_pos c18] at H
      have c18b0 : decide (100 ≤ a0) = true := decide_eq_true c18
      clear c18
      obtain ⟨ji19, hji19⟩ : ∃ j_ : Int, (wrap64 (Int.tdiv a0 100)) = j_ := ⟨_, rfl⟩
      replace H : (if 0 ≤ (ji19) then (if (ji19) ≤ (wrap64 ((ji19) + 1)) then (if (wrap64 ((ji19) + 1)) ≤ 10 then (if ((⟨#[48, 49, 50, 51, 52, 53, 54, 55, 56, 57]⟩ : ByteArray).extract ((ji19) : Int).toNat ((wrap64 ((ji19) + 1)) : Int).toNat).size + ((⟨#[48, 49, 50, 51, 52, 53, 54, 55, 56, 57]⟩ : ByteArray).extract ((ji2) : Int).toNat ((wrap64 ((ji2) + 1)) : Int).toNat).size ≤ 9223372036854775807 then (some (((⟨#[48, 49, 50, 51, 52, 53, 54, 55, 56, 57]⟩ : ByteArray).extract ((ji19) : Int).toNat ((wrap64 ((ji19) + 1)) : Int).toNat) ++ ((⟨#[48, 49, 50, 51, 52, 53, 54, 55, 56, 57]⟩ : ByteArray).extract ((ji2) : Int).toNat ((wrap64 ((ji2) + 1)) : Int).toNat))) else (none)) else (none)) else (none)) else (none)) = some r := by first | (rw [hji19] at H; exact H) | (simp only [hji19] at H ⊢; exact H)
      have hji19w : (IntKind.i64.wrap (Int.tdiv a0 100)) = ji19 := (i64_w _).trans hji19
      by_cases c20 : 0 ≤ (ji19)
      ·rw [if_pos c20] at H
       have c20b0 := eq_true c20
       have c20b1 : decide (0 ≤ (ji19)) = true := decide_eq_true c20
       clear c20
       by_cases c21 : (ji19) ≤ (wrap64 ((ji19) + 1))
       ·rw [if_pos c21] at H
        have c21b0 := eq_true c21
        have c21b1 : decide ((ji19) ≤ (wrap64 ((ji19) + 1))) = true := decide_eq_true c21
        by_cases c22 : (wrap64 ((ji19) + 1)) ≤ 10
        ·rw [if_pos c22] at H
         have c22b0 := eq_true c22
         have c22b1 : decide ((wrap64 ((ji19) + 1)) ≤ 10) = true := decide_eq_true c22
         by_cases c23 : ((⟨#[48, 49, 50, 51, 52, 53, 54, 55, 56, 57]⟩ : ByteArray).extract ((ji19) : Int).toNat ((wrap64 ((ji19) + 1)) : Int).toNat).size + ((⟨#[48, 49, 50, 51, 52, 53, 54, 55, 56, 57]⟩ : ByteArray).extract ((ji2) : Int).toNat ((wrap64 ((ji2) + 1)) : Int).toNat).size ≤ 9223372036854775807
         ·rw [if_pos c23] at H
          have c23b0 := eq_true c23
          have c23b1 : decide (((⟨#[48, 49, 50, 51, 52, 53, 54, 55, 56, 57]⟩ : ByteArray).extract ((ji19) : Int).toNat ((wrap64 ((ji19) + 1)) : Int).toNat).size + ((⟨#[48, 49, 50, 51, 52, 53, 54, 55, 56, 57]⟩ : ByteArray).extract ((ji2) : Int).toNat ((wrap64 ((ji2) + 1)) : Int).toNat).size ≤ 9223372036854775807) = true := decide_eq_true c23
          try have c23b2 : (9223372036854775807 < ((⟨#[48, 49, 50, 51, 52, 53, 54, 55, 56, 57]⟩ : ByteArray).extract ((ji19) : Int).toNat ((wrap64 ((ji19) + 1)) : Int).toNat).size + ((⟨#[48, 49, 50, 51, 52, 53, 54, 55, 56, 57]⟩ : ByteArray).extract ((ji2) : Int).toNat ((wrap64 ((ji2) + 1)) : Int).toNat).size) = False := eq_false (Nat.not_lt.2 c23)
          obtain rfl := Option.some.inj H
          go_enter Tryd.func80, Tryd.ntmps80
          go_wp2
          go_ret
          exact ⟨by first | rfl | (simp; done) | (simp only [← hji2, ← hji19] <;> (first | rfl | simp)) | (simp [*]; done), by repeat (first | exact Drawn0.refl _ | apply Drawn0.step)⟩
         ·rw [if_neg c23] at H
          exact absurd H (by simp)
        ·rw [if_neg c22] at H
         exact absurd H (by simp)
       ·rw [if_neg c21] at H
        exact absurd H (by simp)
      ·rw [if_neg c20] at H
       exact absurd H (by simp)
     ·rw [if_neg c18] at H
      have c18b0 : decide (100 ≤ a0) = false := decide_eq_false c18
      clear c18
      obtain rfl := Option.some.inj H
      go_enter Tryd.func80, Tryd.ntmps80
      go_wp2
      go_ret
      exact ⟨by first | rfl | (simp; done) | (simp only [← hji2] <;> (first | rfl | simp)) | (simp [*]; done), by repeat (first | exact Drawn0.refl _ | apply Drawn0.step)⟩
   ·rw [if_neg c5] at H
    exact absurd H (by simp)
  ·rw [if_neg c4] at H
   exact absurd H (by simp)
 ·rw [if_neg c3] at H
  exact absurd H (by simp)

end Go.Proofs.YtpmieapgbdbabaaDoor.QAll
end

section
/- Walks, written by a program of this session (wip/pp): a Go function comes to what the Lean function beside it tells. -/
namespace Go.Proofs.YtpmieapgbdbabaaDoor.QAll
open Go.RowKit Go.Proofs.YtpmieapgbdbabaaDoorW.PrintWords Go.Proofs.YtpmieapgbdbabaaDoorW.PrintLast Go.Proofs.YtpmieapgbdbabaaDoorW.PrintMore
attribute [local go_sem] max2_int min2_int max_two min_two max_three min_three max_four min_four
set_option linter.unusedVariables false
set_option linter.unusedSimpArgs false

mutual
def squelchref08_Text.j0 : Nat → ByteArray → Bool → Bool → Int → Int → Int → Int → Option (ByteArray)
 | 0, _, _, _, _, _, _, _ => none
 | k + 1, x3, x596000, x596001, x596002, x596003, x596004, x596005 => if x596001 = true then (if x3.size + 5 ≤ 9223372036854775807 then (squelchref08_Text.j1 k (x3 ++ (⟨#[83, 82, 69, 74, 32]⟩ : ByteArray)) x596000 x596001 x596002 x596003 x596004 x596005) else (none)) else (squelchref08_Text.j1 k x3 x596000 x596001 x596002 x596003 x596004 x596005)
def squelchref08_Text.j1 : Nat → ByteArray → Bool → Bool → Int → Int → Int → Int → Option (ByteArray)
 | 0, _, _, _, _, _, _, _ => none
 | k + 1, x3, x596000, x596001, x596002, x596003, x596004, x596005 => if x3.size + 3 ≤ 9223372036854775807 then ((squelchref08_digits.f x596002).bind fun t596 => (if (x3 ++ (⟨#[78, 49, 61]⟩ : ByteArray)).size + t596.size ≤ 9223372036854775807 then (if ((x3 ++ (⟨#[78, 49, 61]⟩ : ByteArray)) ++ t596).size + 3 ≤ 9223372036854775807 then ((squelchref08_digits.f x596003).bind fun t597 => (if (((x3 ++ (⟨#[78, 49, 61]⟩ : ByteArray)) ++ t596) ++ (⟨#[32, 75, 61]⟩ : ByteArray)).size + t597.size ≤ 9223372036854775807 then (if ((((x3 ++ (⟨#[78, 49, 61]⟩ : ByteArray)) ++ t596) ++ (⟨#[32, 75, 61]⟩ : ByteArray)) ++ t597).size + 4 ≤ 9223372036854775807 then ((squelchref08_digits.f x596004).bind fun t598 => (if (((((x3 ++ (⟨#[78, 49, 61]⟩ : ByteArray)) ++ t596) ++ (⟨#[32, 75, 61]⟩ : ByteArray)) ++ t597) ++ (⟨#[32, 84, 49, 61]⟩ : ByteArray)).size + t598.size ≤ 9223372036854775807 then (if ((((((x3 ++ (⟨#[78, 49, 61]⟩ : ByteArray)) ++ t596) ++ (⟨#[32, 75, 61]⟩ : ByteArray)) ++ t597) ++ (⟨#[32, 84, 49, 61]⟩ : ByteArray)) ++ t598).size + 4 ≤ 9223372036854775807 then ((squelchref08_digits.f x596005).bind fun t599 => (if (((((((x3 ++ (⟨#[78, 49, 61]⟩ : ByteArray)) ++ t596) ++ (⟨#[32, 75, 61]⟩ : ByteArray)) ++ t597) ++ (⟨#[32, 84, 49, 61]⟩ : ByteArray)) ++ t598) ++ (⟨#[32, 78, 50, 61]⟩ : ByteArray)).size + t599.size ≤ 9223372036854775807 then (some ((((((((x3 ++ (⟨#[78, 49, 61]⟩ : ByteArray)) ++ t596) ++ (⟨#[32, 75, 61]⟩ : ByteArray)) ++ t597) ++ (⟨#[32, 84, 49, 61]⟩ : ByteArray)) ++ t598) ++ (⟨#[32, 78, 50, 61]⟩ : ByteArray)) ++ t599)) else (none))) else (none)) else (none))) else (none)) else (none))) else (none)) else (none))) else (none)
end
def squelchref08_Text.f (k : Nat) (a0_0 : Bool) (a0_1 : Bool) (a0_2 : Int) (a0_3 : Int) (a0_4 : Int) (a0_5 : Int) : Option (ByteArray) := if a0_0 = true then (if 0 + 5 ≤ 9223372036854775807 then (squelchref08_Text.j0 k ((⟨#[]⟩ : ByteArray) ++ (⟨#[87, 73, 68, 69, 32]⟩ : ByteArray)) a0_0 a0_1 a0_2 a0_3 a0_4 a0_5) else (none)) else (squelchref08_Text.j0 k (⟨#[]⟩ : ByteArray) a0_0 a0_1 a0_2 a0_3 a0_4 a0_5)
set_option maxHeartbeats 8000000 in
set_option maxRecDepth 100000 in
theorem squelchref08_Text.calls (k : Nat) (a0_0 : Bool) (a0_1 : Bool) (a0_2 : Int) (a0_3 : Int) (a0_4 : Int) (a0_5 : Int) (r : ByteArray) (w : World) (h : squelchref08_Text.f k a0_0 a0_1 a0_2 a0_3 a0_4 a0_5 = some r) :
  Calls Tryd.prog 50 #[.agg #[.bool a0_0, .bool a0_1, .int .i64 a0_2, .int .i64 a0_3, .int .i64 a0_4, .int .i64 a0_5]] w fun e w' => e = .returned (.string r) ∧ Below w.heap.size w w' := by
 have hu75 := Tryd.underlying75
 have HB := Aside0.mk (Below.refl w.heap.size w)
 have H : (if a0_0 = true then (if 0 + 5 ≤ 9223372036854775807 then (squelchref08_Text.j0 k ((⟨#[]⟩ : ByteArray) ++ (⟨#[87, 73, 68, 69, 32]⟩ : ByteArray)) a0_0 a0_1 a0_2 a0_3 a0_4 a0_5) else (none)) else (squelchref08_Text.j0 k (⟨#[]⟩ : ByteArray) a0_0 a0_1 a0_2 a0_3 a0_4 a0_5)) = some r := h
 clear h
 have HC2 := Aside0.mk H
 clear H
 go_enter Tryd.func50, Tryd.ntmps50
 go_upto_if 5 with (first | ((with_reducible refine gate_dst (N := 1) rfl ?_); refine box_event ?hg (N := 1) ?hd (cs := #[.bool a0_0, .bool a0_1, .int .i64 a0_2, .int .i64 a0_3, .int .i64 a0_4, .int .i64 a0_5]) (t := 75) ?hr ?_; (case hd => rfl); (case hg => rfl); (case hr => first | (go_simp; done) | (go_simp; rfl)); intro gb595 hg w3 hbox hb; have n0_ := Aside0.mk (below_step (by repeat (first | (with_reducible first | exact HB.out | apply below_alloc | apply pw_below_drewN | apply below_drew1) | exact HB.out)) hb); have n1_ := Aside0.mk (hbox); have n2_ := Aside0.mk ((by rw [hg]; exact (below_size (by repeat (first | (with_reducible first | exact HB.out | apply below_alloc | apply pw_below_drewN | apply below_drew1) | exact HB.out))) : w.heap.size ≤ gb595)); have n3_ := Aside0.mk ((by rw [hg]; exact (below_size (by repeat (first | (with_reducible first | exact HB.out | apply below_alloc | apply pw_below_drewN | apply below_drew1) | exact HB.out))) : w.heap.size ≤ gb595)); clear HB; have HB := n0_; have BK595 := n1_; have GW595 := n2_; have GE595 := n3_; clear n0_ n1_ n2_ n3_; clear hb hbox hg; have hcz4_0 : w3.cell? ⟨gb595, 0, none⟩ = some (.bool a0_0) := (blk_cell BK595.out 0).trans rfl; have hcz4_1 : w3.cell? ⟨gb595, 1, none⟩ = some (.bool a0_1) := (blk_cell BK595.out 1).trans rfl; have hcz4_2 : w3.cell? ⟨gb595, 2, none⟩ = some (.int .i64 a0_2) := (blk_cell BK595.out 2).trans rfl; have hcz4_3 : w3.cell? ⟨gb595, 3, none⟩ = some (.int .i64 a0_3) := (blk_cell BK595.out 3).trans rfl; have hcz4_4 : w3.cell? ⟨gb595, 4, none⟩ = some (.int .i64 a0_4) := (blk_cell BK595.out 4).trans rfl; have hcz4_5 : w3.cell? ⟨gb595, 5, none⟩ = some (.int .i64 a0_5) := (blk_cell BK595.out 5).trans rfl; have hfz4_0 := blk_frozen BK595.out 0; have hfz4_1 := blk_frozen BK595.out 1; have hfz4_2 := blk_frozen BK595.out 2; have hfz4_3 := blk_frozen BK595.out 3; have hfz4_4 := blk_frozen BK595.out 4; have hfz4_5 := blk_frozen BK595.out 5))
 repeat (go_quiet (first | ((with_reducible refine gate_dst (N := 1) rfl ?_); refine box_event ?hg (N := 1) ?hd (cs := #[.bool a0_0, .bool a0_1, .int .i64 a0_2, .int .i64 a0_3, .int .i64 a0_4, .int .i64 a0_5]) (t := 75) ?hr ?_; (case hd => rfl); (case hg => rfl); (case hr => first | (go_simp; done) | (go_simp; rfl)); intro gb595 hg w3 hbox hb; have n0_ := Aside0.mk (below_step (by repeat (first | (with_reducible first | exact HB.out | apply below_alloc | apply pw_below_drewN | apply below_drew1) | exact HB.out)) hb); have n1_ := Aside0.mk (hbox); have n2_ := Aside0.mk ((by rw [hg]; exact (below_size (by repeat (first | (with_reducible first | exact HB.out | apply below_alloc | apply pw_below_drewN | apply below_drew1) | exact HB.out))) : w.heap.size ≤ gb595)); have n3_ := Aside0.mk ((by rw [hg]; exact (below_size (by repeat (first | (with_reducible first | exact HB.out | apply below_alloc | apply pw_below_drewN | apply below_drew1) | exact HB.out))) : w.heap.size ≤ gb595)); clear HB; have HB := n0_; have BK595 := n1_; have GW595 := n2_; have GE595 := n3_; clear n0_ n1_ n2_ n3_; clear hb hbox hg; have hcz4_0 : w3.cell? ⟨gb595, 0, none⟩ = some (.bool a0_0) := (blk_cell BK595.out 0).trans rfl; have hcz4_1 : w3.cell? ⟨gb595, 1, none⟩ = some (.bool a0_1) := (blk_cell BK595.out 1).trans rfl; have hcz4_2 : w3.cell? ⟨gb595, 2, none⟩ = some (.int .i64 a0_2) := (blk_cell BK595.out 2).trans rfl; have hcz4_3 : w3.cell? ⟨gb595, 3, none⟩ = some (.int .i64 a0_3) := (blk_cell BK595.out 3).trans rfl; have hcz4_4 : w3.cell? ⟨gb595, 4, none⟩ = some (.int .i64 a0_4) := (blk_cell BK595.out 4).trans rfl; have hcz4_5 : w3.cell? ⟨gb595, 5, none⟩ = some (.int .i64 a0_5) := (blk_cell BK595.out 5).trans rfl; have hfz4_0 := blk_frozen BK595.out 0; have hfz4_1 := blk_frozen BK595.out 1; have hfz4_2 := blk_frozen BK595.out 2; have hfz4_3 := blk_frozen BK595.out 3; have hfz4_4 := blk_frozen BK595.out 4; have hfz4_5 := blk_frozen BK595.out 5)); go_upto_if 5 with (first | ((with_reducible refine gate_dst (N := 1) rfl ?_); refine box_event ?hg (N := 1) ?hd (cs := #[.bool a0_0, .bool a0_1, .int .i64 a0_2, .int .i64 a0_3, .int .i64 a0_4, .int .i64 a0_5]) (t := 75) ?hr ?_; (case hd => rfl); (case hg => rfl); (case hr => first | (go_simp; done) | (go_simp; rfl)); intro gb595 hg w3 hbox hb; have n0_ := Aside0.mk (below_step (by repeat (first | (with_reducible first | exact HB.out | apply below_alloc | apply pw_below_drewN | apply below_drew1) | exact HB.out)) hb); have n1_ := Aside0.mk (hbox); have n2_ := Aside0.mk ((by rw [hg]; exact (below_size (by repeat (first | (with_reducible first | exact HB.out | apply below_alloc | apply pw_below_drewN | apply below_drew1) | exact HB.out))) : w.heap.size ≤ gb595)); have n3_ := Aside0.mk ((by rw [hg]; exact (below_size (by repeat (first | (with_reducible first | exact HB.out | apply below_alloc | apply pw_below_drewN | apply below_drew1) | exact HB.out))) : w.heap.size ≤ gb595)); clear HB; have HB := n0_; have BK595 := n1_; have GW595 := n2_; have GE595 := n3_; clear n0_ n1_ n2_ n3_; clear hb hbox hg; have hcz4_0 : w3.cell? ⟨gb595, 0, none⟩ = some (.bool a0_0) := (blk_cell BK595.out 0).trans rfl; have hcz4_1 : w3.cell? ⟨gb595, 1, none⟩ = some (.bool a0_1) := (blk_cell BK595.out 1).trans rfl; have hcz4_2 : w3.cell? ⟨gb595, 2, none⟩ = some (.int .i64 a0_2) := (blk_cell BK595.out 2).trans rfl; have hcz4_3 : w3.cell? ⟨gb595, 3, none⟩ = some (.int .i64 a0_3) := (blk_cell BK595.out 3).trans rfl; have hcz4_4 : w3.cell? ⟨gb595, 4, none⟩ = some (.int .i64 a0_4) := (blk_cell BK595.out 4).trans rfl; have hcz4_5 : w3.cell? ⟨gb595, 5, none⟩ = some (.int .i64 a0_5) := (blk_cell BK595.out 5).trans rfl; have hfz4_0 := blk_frozen BK595.out 0; have hfz4_1 := blk_frozen BK595.out 1; have hfz4_2 := blk_frozen BK595.out 2; have hfz4_3 := blk_frozen BK595.out 3; have hfz4_4 := blk_frozen BK595.out 4; have hfz4_5 := blk_frozen BK595.out 5)))
 (try simp only [Act.put, List.setIfInBounds_toArray, List.set_cons_zero, List.set_cons_succ])
 go_cut [3] (fun v3 wc => ∃ (kq : Nat) (x3_1 : ByteArray), v3 = .string x3_1 ∧ Aside0 (squelchref08_Text.j0 kq x3_1 a0_0 a0_1 a0_2 a0_3 a0_4 a0_5 = some r) ∧ Aside0 (kq ≤ k) ∧ Aside0 (wc.heap[gb595]? = some (.cells #[.bool a0_0, .bool a0_1, .int .i64 a0_2, .int .i64 a0_3, .int .i64 a0_4, .int .i64 a0_5] 75 (0, 0))) ∧ Aside0 (Below w.heap.size w wc))
 case first =>
  have H := HC2.out
  clear HC2
  by_cases c5 : a0_0 = true
  ·subst c5
   have H1 : (if 0 + 5 ≤ 9223372036854775807 then (squelchref08_Text.j0 k ((⟨#[]⟩ : ByteArray) ++ (⟨#[87, 73, 68, 69, 32]⟩ : ByteArray)) true a0_1 a0_2 a0_3 a0_4 a0_5) else (none)) = some r := by rw [if_pos rfl] at H; exact H
   clear H
   have H := H1
   clear H1
   by_cases c6 : 0 + 5 ≤ 9223372036854775807
   ·rw [if_pos c6] at H
    have c6b0 := eq_true c6
    have c6b1 : decide (0 + 5 ≤ 9223372036854775807) = true := decide_eq_true c6
    try have c6b2 : (9223372036854775807 < 0 + 5) = False := eq_false (Nat.not_lt.2 c6)
    have H' := Aside0.mk H
    clear H
    go_wp2
    repeat (go_quiet (fail); try go_wp2)
    go_meet
    case rel => exact ⟨_, ((⟨#[]⟩ : ByteArray) ++ (⟨#[87, 73, 68, 69, 32]⟩ : ByteArray)), (by first | rfl | (simp; done) | (simp [*]; done) | (simp; exact (fun l : List UInt8 => (by cases l <;> rfl : l.isEmpty = !(l != []))) _)), H', ⟨by first | omega | exact Nat.le_refl _⟩, ⟨by (with_reducible repeat (first | refine blk_drewN ?_ _ | refine blk_drew ?_ | refine blk_alloc ?_ _)); exact BK595.out⟩, ⟨by repeat (first | (with_reducible first | exact HB.out | apply below_alloc | apply pw_below_drewN | apply below_drew1 | refine below_set ?_ GE595.out) | exact HB.out)⟩⟩
   ·rw [if_neg c6] at H
    exact absurd H (by simp)
  ·replace c5 := Bool.eq_false_iff.mpr c5
   subst c5
   have H1 : (squelchref08_Text.j0 k (⟨#[]⟩ : ByteArray) false a0_1 a0_2 a0_3 a0_4 a0_5) = some r := by rw [if_neg (show ¬ (false = true) by decide)] at H; exact H
   clear H
   have H := H1
   clear H1
   have H' := Aside0.mk H
   clear H
   go_wp2
   repeat (go_quiet (fail); try go_wp2)
   go_meet
   case rel => exact ⟨_, ((⟨#[]⟩ : ByteArray)), (by first | rfl | (simp; done) | (simp [*]; done) | (simp; exact (fun l : List UInt8 => (by cases l <;> rfl : l.isEmpty = !(l != []))) _)), H', ⟨by first | omega | exact Nat.le_refl _⟩, ⟨by (with_reducible repeat (first | refine blk_drewN ?_ _ | refine blk_drew ?_ | refine blk_alloc ?_ _)); exact BK595.out⟩, ⟨by repeat (first | (with_reducible first | exact HB.out | apply below_alloc | apply pw_below_drewN | apply below_drew1 | refine below_set ?_ GE595.out) | exact HB.out)⟩⟩
 case rest =>
  clear HC2
  try clear p2
  try clear c5
  try clear c6
  try clear c6b0
  try clear c6b1
  try clear c6b2
  try clear hcz4_0
  try clear hcz4_1
  try clear hcz4_2
  try clear hcz4_3
  try clear hcz4_4
  try clear hcz4_5
  try clear hfz4_0
  try clear hfz4_1
  try clear hfz4_2
  try clear hfz4_3
  try clear hfz4_4
  try clear hfz4_5
  obtain ⟨kq, x3_1, rfl, HA, HJ1, BK595, HB⟩ := hcut
  cases kq with
  | zero => exact absurd HA.out (by simp [squelchref08_Text.j0])
  | succ kj1 =>
   have H := HA.out
   clear HA
   simp only [squelchref08_Text.j0] at H
   have HC7 := Aside0.mk H
   clear H
   have hcz8_0 : wc.cell? ⟨gb595, 0, none⟩ = some (.bool a0_0) := (blk_cell BK595.out 0).trans rfl
   have hcz8_1 : wc.cell? ⟨gb595, 1, none⟩ = some (.bool a0_1) := (blk_cell BK595.out 1).trans rfl
   have hcz8_2 : wc.cell? ⟨gb595, 2, none⟩ = some (.int .i64 a0_2) := (blk_cell BK595.out 2).trans rfl
   have hcz8_3 : wc.cell? ⟨gb595, 3, none⟩ = some (.int .i64 a0_3) := (blk_cell BK595.out 3).trans rfl
   have hcz8_4 : wc.cell? ⟨gb595, 4, none⟩ = some (.int .i64 a0_4) := (blk_cell BK595.out 4).trans rfl
   have hcz8_5 : wc.cell? ⟨gb595, 5, none⟩ = some (.int .i64 a0_5) := (blk_cell BK595.out 5).trans rfl
   have hfz8_0 := blk_frozen BK595.out 0
   have hfz8_1 := blk_frozen BK595.out 1
   have hfz8_2 := blk_frozen BK595.out 2
   have hfz8_3 := blk_frozen BK595.out 3
   have hfz8_4 := blk_frozen BK595.out 4
   have hfz8_5 := blk_frozen BK595.out 5
   go_upto_if 9 with (fail)
   repeat (go_quiet (fail); go_upto_if 9 with (fail))
   go_cut [3] (fun v3 wc => ∃ (kq : Nat) (x3_6 : ByteArray), v3 = .string x3_6 ∧ Aside0 (squelchref08_Text.j1 kq x3_6 a0_0 a0_1 a0_2 a0_3 a0_4 a0_5 = some r) ∧ Aside0 (kq ≤ kj1) ∧ Aside0 (wc.heap[gb595]? = some (.cells #[.bool a0_0, .bool a0_1, .int .i64 a0_2, .int .i64 a0_3, .int .i64 a0_4, .int .i64 a0_5] 75 (0, 0))) ∧ Aside0 (Below w.heap.size w wc))
   case first =>
    have H := HC7.out
    clear HC7
    by_cases c9 : a0_1 = true
    ·subst c9
     have H1 : (if x3_1.size + 5 ≤ 9223372036854775807 then (squelchref08_Text.j1 kj1 (x3_1 ++ (⟨#[83, 82, 69, 74, 32]⟩ : ByteArray)) a0_0 true a0_2 a0_3 a0_4 a0_5) else (none)) = some r := by rw [if_pos rfl] at H; exact H
     clear H
     have H := H1
     clear H1
     by_cases c10 : x3_1.size + 5 ≤ 9223372036854775807
     ·rw [if_pos c10] at H
      have c10b0 := eq_true c10
      have c10b1 : decide (x3_1.size + 5 ≤ 9223372036854775807) = true := decide_eq_true c10
      try have c10b2 : (9223372036854775807 < x3_1.size + 5) = False := eq_false (Nat.not_lt.2 c10)
      have H' := Aside0.mk H
      clear H
      go_wp2
      repeat (go_quiet (fail); try go_wp2)
      go_meet
      case rel => exact ⟨_, (x3_1 ++ (⟨#[83, 82, 69, 74, 32]⟩ : ByteArray)), (by first | rfl | (simp; done) | (simp [*]; done) | (simp; exact (fun l : List UInt8 => (by cases l <;> rfl : l.isEmpty = !(l != []))) _)), H', ⟨by have := HJ1.out; first | omega | exact Nat.le_refl _⟩, ⟨by (with_reducible repeat (first | refine blk_drewN ?_ _ | refine blk_drew ?_ | refine blk_alloc ?_ _)); exact BK595.out⟩, ⟨by repeat (first | (with_reducible first | exact HB.out | apply below_alloc | apply pw_below_drewN | apply below_drew1 | refine below_set ?_ GE595.out) | exact HB.out)⟩⟩
     ·rw [if_neg c10] at H
      exact absurd H (by simp)
    ·replace c9 := Bool.eq_false_iff.mpr c9
     subst c9
     have H1 : (squelchref08_Text.j1 kj1 x3_1 a0_0 false a0_2 a0_3 a0_4 a0_5) = some r := by rw [if_neg (show ¬ (false = true) by decide)] at H; exact H
     clear H
     have H := H1
     clear H1
     have H' := Aside0.mk H
     clear H
     go_wp2
     repeat (go_quiet (fail); try go_wp2)
     go_meet
     case rel => exact ⟨_, (x3_1), (by first | rfl | (simp; done) | (simp [*]; done) | (simp; exact (fun l : List UInt8 => (by cases l <;> rfl : l.isEmpty = !(l != []))) _)), H', ⟨by have := HJ1.out; first | omega | exact Nat.le_refl _⟩, ⟨by (with_reducible repeat (first | refine blk_drewN ?_ _ | refine blk_drew ?_ | refine blk_alloc ?_ _)); exact BK595.out⟩, ⟨by repeat (first | (with_reducible first | exact HB.out | apply below_alloc | apply pw_below_drewN | apply below_drew1 | refine below_set ?_ GE595.out) | exact HB.out)⟩⟩
   case rest =>
    clear HC7
    try clear c1
    try clear p2
    try clear c5
    try clear c6
    try clear c6b0
    try clear c6b1
    try clear c6b2
    try clear c9
    try clear c10
    try clear c10b0
    try clear c10b1
    try clear c10b2
    try clear hcz4_0
    try clear hcz4_1
    try clear hcz4_2
    try clear hcz4_3
    try clear hcz4_4
    try clear hcz4_5
    try clear hcz8_0
    try clear hcz8_1
    try clear hcz8_2
    try clear hcz8_3
    try clear hcz8_4
    try clear hcz8_5
    try clear hfz4_0
    try clear hfz4_1
    try clear hfz4_2
    try clear hfz4_3
    try clear hfz4_4
    try clear hfz4_5
    try clear hfz8_0
    try clear hfz8_1
    try clear hfz8_2
    try clear hfz8_3
    try clear hfz8_4
    try clear hfz8_5
    try clear p2
    obtain ⟨kq, x3_6, rfl, HA, HJ6, BK595, HB⟩ := hcut
    cases kq with
    | zero => exact absurd HA.out (by simp [squelchref08_Text.j1])
    | succ kj6 =>
     have H := HA.out
     clear HA
     simp only [squelchref08_Text.j1] at H
     by_cases c11 : x3_6.size + 3 ≤ 9223372036854775807
     ·rw [if_pos c11] at H
      have c11b0 := eq_true c11
      have c11b1 : decide (x3_6.size + 3 ≤ 9223372036854775807) = true := decide_eq_true c11
      try have c11b2 : (9223372036854775807 < x3_6.size + 3) = False := eq_false (Nat.not_lt.2 c11)
      replace H := Option.bind_eq_some_iff.mp H
      obtain ⟨t596, A120, H⟩ := H
      replace H : (if (x3_6 ++ (⟨#[78, 49, 61]⟩ : ByteArray)).size + t596.size ≤ 9223372036854775807 then (if ((x3_6 ++ (⟨#[78, 49, 61]⟩ : ByteArray)) ++ t596).size + 3 ≤ 9223372036854775807 then ((squelchref08_digits.f a0_3).bind fun t597 => (if (((x3_6 ++ (⟨#[78, 49, 61]⟩ : ByteArray)) ++ t596) ++ (⟨#[32, 75, 61]⟩ : ByteArray)).size + t597.size ≤ 9223372036854775807 then (if ((((x3_6 ++ (⟨#[78, 49, 61]⟩ : ByteArray)) ++ t596) ++ (⟨#[32, 75, 61]⟩ : ByteArray)) ++ t597).size + 4 ≤ 9223372036854775807 then ((squelchref08_digits.f a0_4).bind fun t598 => (if (((((x3_6 ++ (⟨#[78, 49, 61]⟩ : ByteArray)) ++ t596) ++ (⟨#[32, 75, 61]⟩ : ByteArray)) ++ t597) ++ (⟨#[32, 84, 49, 61]⟩ : ByteArray)).size + t598.size ≤ 9223372036854775807 then (if ((((((x3_6 ++ (⟨#[78, 49, 61]⟩ : ByteArray)) ++ t596) ++ (⟨#[32, 75, 61]⟩ : ByteArray)) ++ t597) ++ (⟨#[32, 84, 49, 61]⟩ : ByteArray)) ++ t598).size + 4 ≤ 9223372036854775807 then ((squelchref08_digits.f a0_5).bind fun t599 => (if (((((((x3_6 ++ (⟨#[78, 49, 61]⟩ : ByteArray)) ++ t596) ++ (⟨#[32, 75, 61]⟩ : ByteArray)) ++ t597) ++ (⟨#[32, 84, 49, 61]⟩ : ByteArray)) ++ t598) ++ (⟨#[32, 78, 50, 61]⟩ : ByteArray)).size + t599.size ≤ 9223372036854775807 then (some ((((((((x3_6 ++ (⟨#[78, 49, 61]⟩ : ByteArray)) ++ t596) ++ (⟨#[32, 75, 61]⟩ : ByteArray)) ++ t597) ++ (⟨#[32, 84, 49, 61]⟩ : ByteArray)) ++ t598) ++ (⟨#[32, 78, 50, 61]⟩ : ByteArray)) ++ t599)) else (none))) else (none)) else (none))) else (none)) else (none))) else (none)) else (none)) = some r := H
      have A12 := Aside0.mk A120
      clear A120
      by_cases c13 : (x3_6 ++ (⟨#[78, 49, 61]⟩ : ByteArray)).size + t596.size ≤ 9223372036854775807
      ·rw [if_pos c13] at H
       have c13b0 := eq_true c13
       have c13b1 : decide ((x3_6 ++ (⟨#[78, 49, 61]⟩ : ByteArray)).size + t596.size ≤ 9223372036854775807) = true := decide_eq_true c13
       try have c13b2 : (9223372036854775807 < (x3_6 ++ (⟨#[78, 49, 61]⟩ : ByteArray)).size + t596.size) = False := eq_false (Nat.not_lt.2 c13)
       (try (have c13b5 := c13b2; simp only [ByteArray.size_append, show (⟨#[78, 49, 61]⟩ : ByteArray).size = 3 from rfl] at c13b5))
       (try (have c13b5 := c13b2; simp only [ByteArray.size_append, show (⟨#[78, 49, 61]⟩ : ByteArray).size = 3 from rfl] at c13b5))
       by_cases c14 : ((x3_6 ++ (⟨#[78, 49, 61]⟩ : ByteArray)) ++ t596).size + 3 ≤ 9223372036854775807
       ·rw [if_pos c14] at H
        have c14b0 := eq_true c14
        have c14b1 : decide (((x3_6 ++ (⟨#[78, 49, 61]⟩ : ByteArray)) ++ t596).size + 3 ≤ 9223372036854775807) = true := decide_eq_true c14
        try have c14b2 : (9223372036854775807 < ((x3_6 ++ (⟨#[78, 49, 61]⟩ : ByteArray)) ++ t596).size + 3) = False := eq_false (Nat.not_lt.2 c14)
        (try (have c14b5 := c14b2; simp only [ByteArray.size_append, show (⟨#[78, 49, 61]⟩ : ByteArray).size = 3 from rfl] at c14b5))
        (try (have c14b5 := c14b2; simp only [ByteArray.size_append, show (⟨#[78, 49, 61]⟩ : ByteArray).size = 3 from rfl] at c14b5))
        replace H := Option.bind_eq_some_iff.mp H
        obtain ⟨t597, A150, H⟩ := H
        replace H : (if (((x3_6 ++ (⟨#[78, 49, 61]⟩ : ByteArray)) ++ t596) ++ (⟨#[32, 75, 61]⟩ : ByteArray)).size + t597.size ≤ 9223372036854775807 then (if ((((x3_6 ++ (⟨#[78, 49, 61]⟩ : ByteArray)) ++ t596) ++ (⟨#[32, 75, 61]⟩ : ByteArray)) ++ t597).size + 4 ≤ 9223372036854775807 then ((squelchref08_digits.f a0_4).bind fun t598 => (if (((((x3_6 ++ (⟨#[78, 49, 61]⟩ : ByteArray)) ++ t596) ++ (⟨#[32, 75, 61]⟩ : ByteArray)) ++ t597) ++ (⟨#[32, 84, 49, 61]⟩ : ByteArray)).size + t598.size ≤ 9223372036854775807 then (if ((((((x3_6 ++ (⟨#[78, 49, 61]⟩ : ByteArray)) ++ t596) ++ (⟨#[32, 75, 61]⟩ : ByteArray)) ++ t597) ++ (⟨#[32, 84, 49, 61]⟩ : ByteArray)) ++ t598).size + 4 ≤ 9223372036854775807 then ((squelchref08_digits.f a0_5).bind fun t599 => (if (((((((x3_6 ++ (⟨#[78, 49, 61]⟩ : ByteArray)) ++ t596) ++ (⟨#[32, 75, 61]⟩ : ByteArray)) ++ t597) ++ (⟨#[32, 84, 49, 61]⟩ : ByteArray)) ++ t598) ++ (⟨#[32, 78, 50, 61]⟩ : ByteArray)).size + t599.size ≤ 9223372036854775807 then (some ((((((((x3_6 ++ (⟨#[78, 49, 61]⟩ : ByteArray)) ++ t596) ++ (⟨#[32, 75, 61]⟩ : ByteArray)) ++ t597) ++ (⟨#[32, 84, 49, 61]⟩ : ByteArray)) ++ t598) ++ (⟨#[32, 78, 50, 61]⟩ : ByteArray)) ++ t599)) else (none))) else (none)) else (none))) else (none)) else (none)) = some r := H
        have A15 := Aside0.mk A150
        clear A150
        by_cases c16 : (((x3_6 ++ (⟨#[78, 49, 61]⟩ : ByteArray)) ++ t596) ++ (⟨#[32, 75, 61]⟩ : ByteArray)).size + t597.size ≤ 9223372036854775807
        ·rw [if_pos c16] at H
         have c16b0 := eq_true c16
         have c16b1 : decide ((((x3_6 ++ (⟨#[78, 49, 61]⟩ : ByteArray)) ++ t596) ++ (⟨#[32, 75, 61]⟩ : ByteArray)).size + t597.size ≤ 9223372036854775807) = true := decide_eq_true c16
         try have c16b2 : (9223372036854775807 < (((x3_6 ++ (⟨#[78, 49, 61]⟩ : ByteArray)) ++ t596) ++ (⟨#[32, 75, 61]⟩ : ByteArray)).size + t597.size) = False := eq_false (Nat.not_lt.2 c16)
         (try (have c16b5 := c16b2; simp only [ByteArray.size_append, show (⟨#[78, 49, 61]⟩ : ByteArray).size = 3 from rfl, show (⟨#[32, 75, 61]⟩ : ByteArray).size = 3 from rfl] at c16b5))
         (try (have c16b5 := c16b2; simp only [ByteArray.size_append, show (⟨#[78, 49, 61]⟩ : ByteArray).size = 3 from rfl, show (⟨#[32, 75, 61]⟩ : ByteArray).size = 3 from rfl] at c16b5))
         by_cases c17 : ((((x3_6 ++ (⟨#[78, 49, 61]⟩ : ByteArray)) ++ t596) ++ (⟨#[32, 75, 61]⟩ : ByteArray)) ++ t597).size + 4 ≤ 9223372036854775807
         ·rw [if_pos c17] at H
          have c17b0 := eq_true c17
          have c17b1 : decide (((((x3_6 ++ (⟨#[78, 49, 61]⟩ : ByteArray)) ++ t596) ++ (⟨#[32, 75, 61]⟩ : ByteArray)) ++ t597).size + 4 ≤ 9223372036854775807) = true := decide_eq_true c17
          try have c17b2 : (9223372036854775807 < ((((x3_6 ++ (⟨#[78, 49, 61]⟩ : ByteArray)) ++ t596) ++ (⟨#[32, 75, 61]⟩ : ByteArray)) ++ t597).size + 4) = False := eq_false (Nat.not_lt.2 c17)
          (try (have c17b5 := c17b2; simp only [ByteArray.size_append, show (⟨#[78, 49, 61]⟩ : ByteArray).size = 3 from rfl, show (⟨#[32, 75, 61]⟩ : ByteArray).size = 3 from rfl] at c17b5))
          (try (have c17b5 := c17b2; simp only [ByteArray.size_append, show (⟨#[78, 49, 61]⟩ : ByteArray).size = 3 from rfl, show (⟨#[32, 75, 61]⟩ : ByteArray).size = 3 from rfl] at c17b5))
          replace H := Option.bind_eq_some_iff.mp H
          obtain ⟨t598, A180, H⟩ := H
          replace H : (if (((((x3_6 ++ (⟨#[78, 49, 61]⟩ : ByteArray)) ++ t596) ++ (⟨#[32, 75, 61]⟩ : ByteArray)) ++ t597) ++ (⟨#[32, 84, 49, 61]⟩ : ByteArray)).size + t598.size ≤ 9223372036854775807 then (if ((((((x3_6 ++ (⟨#[78, 49, 61]⟩ : ByteArray)) ++ t596) ++ (⟨#[32, 75, 61]⟩ : ByteArray)) ++ t597) ++ (⟨#[32, 84, 49, 61]⟩ : ByteArray)) ++ t598).size + 4 ≤ 9223372036854775807 then ((squelchref08_digits.f a0_5).bind fun t599 => (if (((((((x3_6 ++ (⟨#[78, 49, 61]⟩ : ByteArray)) ++ t596) ++ (⟨#[32, 75, 61]⟩ : ByteArray)) ++ t597) ++ (⟨#[32, 84, 49, 61]⟩ : ByteArray)) ++ t598) ++ (⟨#[32, 78, 50, 61]⟩ : ByteArray)).size + t599.size ≤ 9223372036854775807 then (some ((((((((x3_6 ++ (⟨#[78, 49, 61]⟩ : ByteArray)) ++ t596) ++ (⟨#[32, 75, 61]⟩ : ByteArray)) ++ t597) ++ (⟨#[32, 84, 49, 61]⟩ : ByteArray)) ++ t598) ++ (⟨#[32, 78, 50, 61]⟩ : ByteArray)) ++ t599)) else (none))) else (none)) else (none)) = some r := H
          have A18 := Aside0.mk A180
          clear A180
          by_cases c19 : (((((x3_6 ++ (⟨#[78, 49, 61]⟩ : ByteArray)) ++ t596) ++ (⟨#[32, 75, 61]⟩ : ByteArray)) ++ t597) ++ (⟨#[32, 84, 49, 61]⟩ : ByteArray)).size + t598.size ≤ 9223372036854775807
          ·rw [if_pos c19] at H
           have c19b0 := eq_true c19
           have c19b1 : decide ((((((x3_6 ++ (⟨#[78, 49, 61]⟩ : ByteArray)) ++ t596) ++ (⟨#[32, 75, 61]⟩ : ByteArray)) ++ t597) ++ (⟨#[32, 84, 49, 61]⟩ : ByteArray)).size + t598.size ≤ 9223372036854775807) = true := decide_eq_true c19
           try have c19b2 : (9223372036854775807 < (((((x3_6 ++ (⟨#[78, 49, 61]⟩ : ByteArray)) ++ t596) ++ (⟨#[32, 75, 61]⟩ : ByteArray)) ++ t597) ++ (⟨#[32, 84, 49, 61]⟩ : ByteArray)).size + t598.size) = False := eq_false (Nat.not_lt.2 c19)
           (try (have c19b5 := c19b2; simp only [ByteArray.size_append, show (⟨#[78, 49, 61]⟩ : ByteArray).size = 3 from rfl, show (⟨#[32, 75, 61]⟩ : ByteArray).size = 3 from rfl, show (⟨#[32, 84, 49, 61]⟩ : ByteArray).size = 4 from rfl] at c19b5))
           (try (have c19b5 := c19b2; simp only [ByteArray.size_append, show (⟨#[78, 49, 61]⟩ : ByteArray).size = 3 from rfl, show (⟨#[32, 75, 61]⟩ : ByteArray).size = 3 from rfl, show (⟨#[32, 84, 49, 61]⟩ : ByteArray).size = 4 from rfl] at c19b5))
           by_cases c20 : ((((((x3_6 ++ (⟨#[78, 49, 61]⟩ : ByteArray)) ++ t596) ++ (⟨#[32, 75, 61]⟩ : ByteArray)) ++ t597) ++ (⟨#[32, 84, 49, 61]⟩ : ByteArray)) ++ t598).size + 4 ≤ 9223372036854775807
           ·rw [if_pos c20] at H
            have c20b0 := eq_true c20
            have c20b1 : decide (((((((x3_6 ++ (⟨#[78, 49, 61]⟩ : ByteArray)) ++ t596) ++ (⟨#[32, 75, 61]⟩ : ByteArray)) ++ t597) ++ (⟨#[32, 84, 49, 61]⟩ : ByteArray)) ++ t598).size + 4 ≤ 9223372036854775807) = true := decide_eq_true c20
            try have c20b2 : (9223372036854775807 < ((((((x3_6 ++ (⟨#[78, 49, 61]⟩ : ByteArray)) ++ t596) ++ (⟨#[32, 75, 61]⟩ : ByteArray)) ++ t597) ++ (⟨#[32, 84, 49, 61]⟩ : ByteArray)) ++ t598).size + 4) = False := eq_false (Nat.not_lt.2 c20)
            (try (have c20b5 := c20b2; simp only [ByteArray.size_append, show (⟨#[78, 49, 61]⟩ : ByteArray).size = 3 from rfl, show (⟨#[32, 75, 61]⟩ : ByteArray).size = 3 from rfl, show (⟨#[32, 84, 49, 61]⟩ : ByteArray).size = 4 from rfl] at c20b5))
            (try (have c20b5 := c20b2; simp only [ByteArray.size_append, show (⟨#[78, 49, 61]⟩ : ByteArray).size = 3 from rfl, show (⟨#[32, 75, 61]⟩ : ByteArray).size = 3 from rfl, show (⟨#[32, 84, 49, 61]⟩ : ByteArray).size = 4 from rfl] at c20b5))
            replace H := Option.bind_eq_some_iff.mp H
            obtain ⟨t599, A210, H⟩ := H
            replace H : (if (((((((x3_6 ++ (⟨#[78, 49, 61]⟩ : ByteArray)) ++ t596) ++ (⟨#[32, 75, 61]⟩ : ByteArray)) ++ t597) ++ (⟨#[32, 84, 49, 61]⟩ : ByteArray)) ++ t598) ++ (⟨#[32, 78, 50, 61]⟩ : ByteArray)).size + t599.size ≤ 9223372036854775807 then (some ((((((((x3_6 ++ (⟨#[78, 49, 61]⟩ : ByteArray)) ++ t596) ++ (⟨#[32, 75, 61]⟩ : ByteArray)) ++ t597) ++ (⟨#[32, 84, 49, 61]⟩ : ByteArray)) ++ t598) ++ (⟨#[32, 78, 50, 61]⟩ : ByteArray)) ++ t599)) else (none)) = some r := H
            have A21 := Aside0.mk A210
            clear A210
            by_cases c22 : (((((((x3_6 ++ (⟨#[78, 49, 61]⟩ : ByteArray)) ++ t596) ++ (⟨#[32, 75, 61]⟩ : ByteArray)) ++ t597) ++ (⟨#[32, 84, 49, 61]⟩ : ByteArray)) ++ t598) ++ (⟨#[32, 78, 50, 61]⟩ : ByteArray)).size + t599.size ≤ 9223372036854775807
            ·rw [if_pos c22] at H
             have c22b0 := eq_true c22
             have c22b1 : decide ((((((((x3_6 ++ (⟨#[78, 49, 61]⟩ : ByteArray)) ++ t596) ++ (⟨#[32, 75, 61]⟩ : ByteArray)) ++ t597) ++ (⟨#[32, 84, 49, 61]⟩ : ByteArray)) ++ t598) ++ (⟨#[32, 78, 50, 61]⟩ : ByteArray)).size + t599.size ≤ 9223372036854775807) = true := decide_eq_true c22
             try have c22b2 : (9223372036854775807 < (((((((x3_6 ++ (⟨#[78, 49, 61]⟩ : ByteArray)) ++ t596) ++ (⟨#[32, 75, 61]⟩ : ByteArray)) ++ t597) ++ (⟨#[32, 84, 49, 61]⟩ : ByteArray)) ++ t598) ++ (⟨#[32, 78, 50, 61]⟩ : ByteArray)).size + t599.size) = False := eq_false (Nat.not_lt.2 c22)
             (try (have c22b5 := c22b2; simp only [ByteArray.size_append, show (⟨#[78, 49, 61]⟩ : ByteArray).size = 3 from rfl, show (⟨#[32, 75, 61]⟩ : ByteArray).size = 3 from rfl, show (⟨#[32, 84, 49, 61]⟩ : ByteArray).size = 4 from rfl, show (⟨#[32, 78, 50, 61]⟩ : ByteArray).size = 4 from rfl] at c22b5))
             (try (have c22b5 := c22b2; simp only [ByteArray.size_append, show (⟨#[78, 49, 61]⟩ : ByteArray).size = 3 from rfl, show (⟨#[32, 75, 61]⟩ : ByteArray).size = 3 from rfl, show (⟨#[32, 84, 49, 61]⟩ : ByteArray).size = 4 from rfl, show (⟨#[32, 78, 50, 61]⟩ : ByteArray).size = 4 from rfl] at c22b5))
             obtain rfl := Option.some.inj H
             have hcz23_0 : wc.cell? ⟨gb595, 0, none⟩ = some (.bool a0_0) := (blk_cell BK595.out 0).trans rfl
             have hcz23_1 : wc.cell? ⟨gb595, 1, none⟩ = some (.bool a0_1) := (blk_cell BK595.out 1).trans rfl
             have hcz23_2 : wc.cell? ⟨gb595, 2, none⟩ = some (.int .i64 a0_2) := (blk_cell BK595.out 2).trans rfl
             have hcz23_3 : wc.cell? ⟨gb595, 3, none⟩ = some (.int .i64 a0_3) := (blk_cell BK595.out 3).trans rfl
             have hcz23_4 : wc.cell? ⟨gb595, 4, none⟩ = some (.int .i64 a0_4) := (blk_cell BK595.out 4).trans rfl
             have hcz23_5 : wc.cell? ⟨gb595, 5, none⟩ = some (.int .i64 a0_5) := (blk_cell BK595.out 5).trans rfl
             have hfz23_0 := blk_frozen BK595.out 0
             have hfz23_1 := blk_frozen BK595.out 1
             have hfz23_2 := blk_frozen BK595.out 2
             have hfz23_3 := blk_frozen BK595.out 3
             have hfz23_4 := blk_frozen BK595.out 4
             have hfz23_5 := blk_frozen BK595.out 5
             go_wp2_with (first | (go_at_call 80; (with_reducible refine (squelchref08_digits.calls a0_2 t596 _ A12.out).mono ?_); rintro e w' ⟨rfl, ⟨nd, rfl⟩⟩; (try first | exact ⟨rfl, _, World.drewN_drewN _ _ _⟩ | exact ⟨rfl, _, Eq.trans (World.drewN_drewN _ _ _) (congrArg (World.drewN _) (Nat.add_assoc _ _ _))⟩)) | (go_at_call 80; (with_reducible refine (squelchref08_digits.calls a0_3 t597 _ A15.out).mono ?_); rintro e w' ⟨rfl, ⟨nd, rfl⟩⟩; (try first | exact ⟨rfl, _, World.drewN_drewN _ _ _⟩ | exact ⟨rfl, _, Eq.trans (World.drewN_drewN _ _ _) (congrArg (World.drewN _) (Nat.add_assoc _ _ _))⟩)) | (go_at_call 80; (with_reducible refine (squelchref08_digits.calls a0_4 t598 _ A18.out).mono ?_); rintro e w' ⟨rfl, ⟨nd, rfl⟩⟩; (try first | exact ⟨rfl, _, World.drewN_drewN _ _ _⟩ | exact ⟨rfl, _, Eq.trans (World.drewN_drewN _ _ _) (congrArg (World.drewN _) (Nat.add_assoc _ _ _))⟩)) | (go_at_call 80; (with_reducible refine (squelchref08_digits.calls a0_5 t599 _ A21.out).mono ?_); rintro e w' ⟨rfl, ⟨nd, rfl⟩⟩; (try first | exact ⟨rfl, _, World.drewN_drewN _ _ _⟩ | exact ⟨rfl, _, Eq.trans (World.drewN_drewN _ _ _) (congrArg (World.drewN _) (Nat.add_assoc _ _ _))⟩)))
             repeat (go_quiet (first | (go_at_call 80; (with_reducible refine (squelchref08_digits.calls a0_2 t596 _ A12.out).mono ?_); rintro e w' ⟨rfl, ⟨nd, rfl⟩⟩; (try first | exact ⟨rfl, _, World.drewN_drewN _ _ _⟩ | exact ⟨rfl, _, Eq.trans (World.drewN_drewN _ _ _) (congrArg (World.drewN _) (Nat.add_assoc _ _ _))⟩)) | (go_at_call 80; (with_reducible refine (squelchref08_digits.calls a0_3 t597 _ A15.out).mono ?_); rintro e w' ⟨rfl, ⟨nd, rfl⟩⟩; (try first | exact ⟨rfl, _, World.drewN_drewN _ _ _⟩ | exact ⟨rfl, _, Eq.trans (World.drewN_drewN _ _ _) (congrArg (World.drewN _) (Nat.add_assoc _ _ _))⟩)) | (go_at_call 80; (with_reducible refine (squelchref08_digits.calls a0_4 t598 _ A18.out).mono ?_); rintro e w' ⟨rfl, ⟨nd, rfl⟩⟩; (try first | exact ⟨rfl, _, World.drewN_drewN _ _ _⟩ | exact ⟨rfl, _, Eq.trans (World.drewN_drewN _ _ _) (congrArg (World.drewN _) (Nat.add_assoc _ _ _))⟩)) | (go_at_call 80; (with_reducible refine (squelchref08_digits.calls a0_5 t599 _ A21.out).mono ?_); rintro e w' ⟨rfl, ⟨nd, rfl⟩⟩; (try first | exact ⟨rfl, _, World.drewN_drewN _ _ _⟩ | exact ⟨rfl, _, Eq.trans (World.drewN_drewN _ _ _) (congrArg (World.drewN _) (Nat.add_assoc _ _ _))⟩))); try go_wp2_with (first | (go_at_call 80; (with_reducible refine (squelchref08_digits.calls a0_2 t596 _ A12.out).mono ?_); rintro e w' ⟨rfl, ⟨nd, rfl⟩⟩; (try first | exact ⟨rfl, _, World.drewN_drewN _ _ _⟩ | exact ⟨rfl, _, Eq.trans (World.drewN_drewN _ _ _) (congrArg (World.drewN _) (Nat.add_assoc _ _ _))⟩)) | (go_at_call 80; (with_reducible refine (squelchref08_digits.calls a0_3 t597 _ A15.out).mono ?_); rintro e w' ⟨rfl, ⟨nd, rfl⟩⟩; (try first | exact ⟨rfl, _, World.drewN_drewN _ _ _⟩ | exact ⟨rfl, _, Eq.trans (World.drewN_drewN _ _ _) (congrArg (World.drewN _) (Nat.add_assoc _ _ _))⟩)) | (go_at_call 80; (with_reducible refine (squelchref08_digits.calls a0_4 t598 _ A18.out).mono ?_); rintro e w' ⟨rfl, ⟨nd, rfl⟩⟩; (try first | exact ⟨rfl, _, World.drewN_drewN _ _ _⟩ | exact ⟨rfl, _, Eq.trans (World.drewN_drewN _ _ _) (congrArg (World.drewN _) (Nat.add_assoc _ _ _))⟩)) | (go_at_call 80; (with_reducible refine (squelchref08_digits.calls a0_5 t599 _ A21.out).mono ?_); rintro e w' ⟨rfl, ⟨nd, rfl⟩⟩; (try first | exact ⟨rfl, _, World.drewN_drewN _ _ _⟩ | exact ⟨rfl, _, Eq.trans (World.drewN_drewN _ _ _) (congrArg (World.drewN _) (Nat.add_assoc _ _ _))⟩))))
             go_ret
             exact ⟨by first | rfl | (simp [errW_none, errW_some] <;> rfl) | (simp [*, errW_none, errW_some] <;> rfl), by repeat (first | (with_reducible first | exact HB.out | apply below_alloc | apply pw_below_drewN | apply below_drew1 | refine below_set ?_ GE595.out) | exact HB.out)⟩
            ·rw [if_neg c22] at H
             exact absurd H (by simp)
           ·rw [if_neg c20] at H
            exact absurd H (by simp)
          ·rw [if_neg c19] at H
           exact absurd H (by simp)
         ·rw [if_neg c17] at H
          exact absurd H (by simp)
        ·rw [if_neg c16] at H
         exact absurd H (by simp)
       ·rw [if_neg c14] at H
        exact absurd H (by simp)
      ·rw [if_neg c13] at H
       exact absurd H (by simp)
     ·rw [if_neg c11] at H
      exact absurd H (by simp)

end Go.Proofs.YtpmieapgbdbabaaDoor.QAll
end

section
/- What the walks take from the library's shelf, at this program: written by the kit's own tools, the wanted ones picked by a program of this session (wip/pp/shelf.py). -/
namespace Go.Proofs
open Go.Shelf
def Tryd.lays156_ren : Go.Shelf.Ren := ⟨fun | 156 => 77 | 165 => 97 | 166 => 66 | 169 => 67 | 240 => 90 | 241 => 112 | 276 => 104 | 277 => 131 | n => n, fun | 31 => 121 | 9 => 9 | 3 => 3 | 4 => 4 | 0 => 0 | 20 => 20 | 72 => 106 | 76 => 110 | 70 => 103 | 37 => 104 | 75 => 109 | 127 => 137 | 164 => 153 | 5 => 5 | 80 => 112 | n => n, fun | n => n⟩
theorem Tryd.lays156 : Go.Proofs.Lays.n156 Tryd.prog Tryd.lays156_ren := {
  mixed := by kernel_rfl
  f156 := Tryd.func77.trans (congrArg some (by kernel_rfl))
  f165 := Tryd.func97.trans (congrArg some (by kernel_rfl))
  f166 := Tryd.func66.trans (congrArg some (by kernel_rfl))
  f169 := Tryd.func67.trans (congrArg some (by kernel_rfl))
  f240 := Tryd.func90.trans (congrArg some (by kernel_rfl))
  f241 := Tryd.func112.trans (congrArg some (by kernel_rfl))
  f276 := Tryd.func104.trans (congrArg some (by kernel_rfl))
  f277 := Tryd.func131.trans (congrArg some (by kernel_rfl))
  t0 := Tryd.underlying0
  a0 := Tryd.isAgg0
  z0 := Tryd.sizeOf0
  v0 := Tryd.zeroValue0
  t3 := Tryd.underlying3
  a3 := Tryd.isAgg3
  z3 := Tryd.sizeOf3
  v3 := Tryd.zeroValue3
  t4 := Tryd.underlying4
  a4 := Tryd.isAgg4
  z4 := Tryd.sizeOf4
  v4 := Tryd.zeroValue4
  t9 := Tryd.underlying9
  a9 := Tryd.isAgg9
  z9 := Tryd.sizeOf9
  v9 := Tryd.zeroValue9
  t20 := Tryd.underlying20
  a20 := Tryd.isAgg20
  z20 := Tryd.sizeOf20
  v20 := Tryd.zeroValue20
  t31 := Tryd.underlying121
  a31 := Tryd.isAgg121
  z31 := Tryd.sizeOf121
  v31 := Tryd.zeroValue121
  t37 := Tryd.underlying104
  a37 := Tryd.isAgg104
  z37 := Tryd.sizeOf104
  v37 := Tryd.zeroValue104
  t70 := Tryd.underlying103
  a70 := Tryd.isAgg103
  z70 := Tryd.sizeOf103
  v70 := Tryd.zeroValue103
  t72 := Tryd.underlying106
  a72 := Tryd.isAgg106
  z72 := Tryd.sizeOf106
  v72 := Tryd.zeroValue106
  t75 := Tryd.underlying109
  a75 := Tryd.isAgg109
  z75 := Tryd.sizeOf109
  v75 := Tryd.zeroValue109
  t76 := Tryd.underlying110
  a76 := Tryd.isAgg110
  z76 := Tryd.sizeOf110
  v76 := Tryd.zeroValue110
  t127 := Tryd.underlying137
  a127 := Tryd.isAgg137
  z127 := Tryd.sizeOf137
  v127 := Tryd.zeroValue137
  t164 := Tryd.underlying153
  a164 := Tryd.isAgg153
  z164 := Tryd.sizeOf153
  v164 := Tryd.zeroValue153 }
theorem Tryd.Builder_Extra_156 : Builder.Extra Tryd.prog Tryd.lays156_ren := {
  sizeBuilder := by kernel_rfl
  liesBuilder := by kernel_rfl
  t5 := Tryd.underlying5
  a5 := Tryd.isAgg5
  z5 := Tryd.sizeOf5
  v5 := Tryd.zeroValue5
  infoByte := by kernel_rfl
  cellsByte := by kernel_rfl
  sizeByte := by kernel_rfl
  neB5 := by decide }
open Go.RowKit in
theorem Tryd.strings_Join (bk o c : Nat) (xs : List ByteArray) (sep : ByteArray) (w : World) (hcells : ∀ (j : Nat) x, xs[j]? = some x → w.cell? ⟨bk, o + j, none⟩ = some (.string x)) (hbk : bk < w.heap.size) (hN : xs.length ≤ 140737488355328) (hcap : xs.length ≤ c) (hlen : (Lib.join (xs.map (·.data.toList)) sep.data.toList).length ≤ 140737488355328) :
    Calls Tryd.prog 77 #[.slice (some ⟨bk, o, none⟩) xs.length c, .string sep] w fun e w' => e = .returned (.string ⟨(Lib.join (xs.map (·.data.toList)) sep.data.toList).toArray⟩) ∧ Below w.heap.size w w' := Any.strings_Join Tryd.lays156 Tryd.Builder_Extra_156 bk o c xs sep w hcells hbk hN hcap hlen
def Tryd.laysM171_ren : Go.Shelf.Ren := ⟨fun | 171 => 69 | 243 => 91 | 246 => 105 | 283 => 120 | 284 => 121 | 285 => 122 | 286 => 123 | 129 => 139 | 317 => 138 | 318 => 140 | 319 => 141 | 320 => 142 | 337 => 150 | 338 => 151 | n => n, fun | 3 => 3 | 9 => 9 | 2 => 2 | 4 => 4 | 171 => 168 | 0 => 0 | 53 => 169 | 37 => 104 | 5 => 5 | 173 => 172 | 212 => 186 | 51 => 187 | 20 => 20 | 213 => 188 | 46 => 129 | 232 => 203 | 233 => 204 | n => n, fun | 17 => 3 | 18 => 6 | 19 => 7 | n => n⟩
theorem Tryd.laysM171 : Go.Proofs.LaysM.n171 Tryd.prog Tryd.laysM171_ren := {
  mixed := by kernel_rfl
  f129 := Tryd.func139.trans (congrArg some (by kernel_rfl))
  f171 := Tryd.func69.trans (congrArg some (by kernel_rfl))
  f243 := Tryd.func91.trans (congrArg some (by kernel_rfl))
  f246 := Tryd.func105.trans (congrArg some (by kernel_rfl))
  f283 := Tryd.func120.trans (congrArg some (by kernel_rfl))
  f284 := Tryd.func121.trans (congrArg some (by kernel_rfl))
  f285 := Tryd.func122.trans (congrArg some (by kernel_rfl))
  f286 := Tryd.func123.trans (congrArg some (by kernel_rfl))
  f317 := Tryd.func138.trans (congrArg some (by kernel_rfl))
  f318 := Tryd.func140.trans (congrArg some (by kernel_rfl))
  f319 := Tryd.func141.trans (congrArg some (by kernel_rfl))
  f320 := Tryd.func142.trans (congrArg some (by kernel_rfl))
  f337 := Tryd.func150.trans (congrArg some (by kernel_rfl))
  f338 := Tryd.func151.trans (congrArg some (by kernel_rfl))
  t0 := Tryd.underlying0
  a0 := Tryd.isAgg0
  z0 := Tryd.sizeOf0
  v0 := Tryd.zeroValue0
  t2 := Tryd.underlying2
  a2 := Tryd.isAgg2
  z2 := Tryd.sizeOf2
  v2 := Tryd.zeroValue2
  t3 := Tryd.underlying3
  a3 := Tryd.isAgg3
  z3 := Tryd.sizeOf3
  v3 := Tryd.zeroValue3
  t4 := Tryd.underlying4
  a4 := Tryd.isAgg4
  z4 := Tryd.sizeOf4
  v4 := Tryd.zeroValue4
  t5 := Tryd.underlying5
  a5 := Tryd.isAgg5
  z5 := Tryd.sizeOf5
  v5 := Tryd.zeroValue5
  t9 := Tryd.underlying9
  a9 := Tryd.isAgg9
  z9 := Tryd.sizeOf9
  v9 := Tryd.zeroValue9
  t20 := Tryd.underlying20
  a20 := Tryd.isAgg20
  z20 := Tryd.sizeOf20
  v20 := Tryd.zeroValue20
  t37 := Tryd.underlying104
  a37 := Tryd.isAgg104
  z37 := Tryd.sizeOf104
  v37 := Tryd.zeroValue104
  t46 := Tryd.underlying129
  a46 := Tryd.isAgg129
  z46 := Tryd.sizeOf129
  v46 := Tryd.zeroValue129
  t51 := Tryd.underlying187
  a51 := Tryd.isAgg187
  z51 := Tryd.sizeOf187
  v51 := Tryd.zeroValue187
  t53 := Tryd.underlying169
  a53 := Tryd.isAgg169
  z53 := Tryd.sizeOf169
  v53 := Tryd.zeroValue169
  t171 := Tryd.underlying168
  a171 := Tryd.isAgg168
  z171 := Tryd.sizeOf168
  v171 := Tryd.zeroValue168
  t173 := Tryd.underlying172
  a173 := Tryd.isAgg172
  z173 := Tryd.sizeOf172
  v173 := Tryd.zeroValue172
  t212 := Tryd.underlying186
  a212 := Tryd.isAgg186
  z212 := Tryd.sizeOf186
  v212 := Tryd.zeroValue186
  t213 := Tryd.underlying188
  a213 := Tryd.isAgg188
  z213 := Tryd.sizeOf188
  t232 := Tryd.underlying203
  a232 := Tryd.isAgg203
  z232 := Tryd.sizeOf203
  v232 := Tryd.zeroValue203
  t233 := Tryd.underlying204
  a233 := Tryd.isAgg204
  z233 := Tryd.sizeOf204
  v233 := Tryd.zeroValue204
  g17 := by kernel_rfl
  g18 := by kernel_rfl
  g19 := by kernel_rfl
  i0 := by kernel_rfl
  i2 := by kernel_rfl
  i3 := by kernel_rfl
  i4 := by kernel_rfl
  i5 := by kernel_rfl
  i9 := by kernel_rfl
  i20 := by kernel_rfl
  i37 := by kernel_rfl
  i46 := by kernel_rfl
  i51 := by kernel_rfl
  i53 := by kernel_rfl
  i171 := by kernel_rfl
  i173 := by kernel_rfl
  i212 := by kernel_rfl
  i232 := by kernel_rfl
  i233 := by kernel_rfl
  m17 := by kernel_rfl
  m18 := by kernel_rfl
  m19 := by kernel_rfl }
open Go.RowKit Go.Sort Go.Lib in
theorem Tryd.strconv_Itoa (n : Int) (h0 : -9223372036854775808 ≤ n) (h1 : n ≤ 9223372036854775807) (w : World) (htab : Lib.TabIs Tryd.prog w "internal/strconv.uint64pow10" .u64 Lib.pow10Tab) :
    Calls Tryd.prog 69 #[.int .i64 n] w fun e w' => e = .returned (.string ⟨(Lib.itoa n).toArray⟩) ∧ ∃ k os, w' = grow (w.drewN k) os := Any.strconv_Itoa Tryd.laysM171 n h0 h1 w htab
def Tryd.laysC172_ren : Go.Shelf.Ren := ⟨fun | 172 => 72 | 244 => 93 | 245 => 94 | 247 => 107 | 279 => 108 | 280 => 109 | 281 => 110 | 282 => 111 | 287 => 128 | 316 => 129 | 171 => 69 | 205 => 130 | 321 => 145 | 322 => 146 | 243 => 91 | 246 => 105 | 283 => 120 | 284 => 121 | 285 => 122 | 286 => 123 | 129 => 139 | 317 => 138 | 318 => 140 | 319 => 141 | 320 => 142 | 337 => 150 | 338 => 151 | n => n, fun | 9 => 9 | 3 => 3 | 75 => 109 | 76 => 110 | 4 => 4 | 5 => 5 | 167 => 157 | 37 => 104 | 0 => 0 | 85 => 158 | 2 => 2 | 168 => 160 | 53 => 169 | 175 => 176 | 46 => 129 | 210 => 179 | 127 => 137 | 145 => 196 | 143 => 194 | 21 => 21 | 171 => 168 | 173 => 172 | 212 => 186 | 51 => 187 | 20 => 20 | 213 => 188 | 232 => 203 | 233 => 204 | 80 => 112 | n => n, fun | 15 => 1 | 16 => 2 | 17 => 3 | 18 => 6 | 19 => 7 | n => n⟩
theorem Tryd.laysC172 : Go.Proofs.LaysC.n172 Tryd.prog Tryd.laysC172_ren := {
  mixed := by kernel_rfl
  f129 := Tryd.func139.trans (congrArg some (by kernel_rfl))
  f171 := Tryd.func69.trans (congrArg some (by kernel_rfl))
  f172 := Tryd.func72.trans (congrArg some (by kernel_rfl))
  f205 := Tryd.func130.trans (congrArg some (by kernel_rfl))
  f243 := Tryd.func91.trans (congrArg some (by kernel_rfl))
  f244 := Tryd.func93.trans (congrArg some (by kernel_rfl))
  f245 := Tryd.func94.trans (congrArg some (by kernel_rfl))
  f246 := Tryd.func105.trans (congrArg some (by kernel_rfl))
  f247 := Tryd.func107.trans (congrArg some (by kernel_rfl))
  f279 := Tryd.func108.trans (congrArg some (by kernel_rfl))
  f280 := Tryd.func109.trans (congrArg some (by kernel_rfl))
  f281 := Tryd.func110.trans (congrArg some (by kernel_rfl))
  f282 := Tryd.func111.trans (congrArg some (by kernel_rfl))
  f283 := Tryd.func120.trans (congrArg some (by kernel_rfl))
  f284 := Tryd.func121.trans (congrArg some (by kernel_rfl))
  f285 := Tryd.func122.trans (congrArg some (by kernel_rfl))
  f286 := Tryd.func123.trans (congrArg some (by kernel_rfl))
  f287 := Tryd.func128.trans (congrArg some (by kernel_rfl))
  f316 := Tryd.func129.trans (congrArg some (by kernel_rfl))
  f317 := Tryd.func138.trans (congrArg some (by kernel_rfl))
  f318 := Tryd.func140.trans (congrArg some (by kernel_rfl))
  f319 := Tryd.func141.trans (congrArg some (by kernel_rfl))
  f320 := Tryd.func142.trans (congrArg some (by kernel_rfl))
  f321 := Tryd.func145.trans (congrArg some (by kernel_rfl))
  f322 := Tryd.func146.trans (congrArg some (by kernel_rfl))
  f337 := Tryd.func150.trans (congrArg some (by kernel_rfl))
  f338 := Tryd.func151.trans (congrArg some (by kernel_rfl))
  t0 := Tryd.underlying0
  a0 := Tryd.isAgg0
  z0 := Tryd.sizeOf0
  v0 := Tryd.zeroValue0
  t2 := Tryd.underlying2
  a2 := Tryd.isAgg2
  z2 := Tryd.sizeOf2
  v2 := Tryd.zeroValue2
  t3 := Tryd.underlying3
  a3 := Tryd.isAgg3
  z3 := Tryd.sizeOf3
  v3 := Tryd.zeroValue3
  t4 := Tryd.underlying4
  a4 := Tryd.isAgg4
  z4 := Tryd.sizeOf4
  v4 := Tryd.zeroValue4
  t5 := Tryd.underlying5
  a5 := Tryd.isAgg5
  z5 := Tryd.sizeOf5
  v5 := Tryd.zeroValue5
  t9 := Tryd.underlying9
  a9 := Tryd.isAgg9
  z9 := Tryd.sizeOf9
  v9 := Tryd.zeroValue9
  t20 := Tryd.underlying20
  a20 := Tryd.isAgg20
  z20 := Tryd.sizeOf20
  v20 := Tryd.zeroValue20
  t21 := Tryd.underlying21
  a21 := Tryd.isAgg21
  z21 := Tryd.sizeOf21
  v21 := Tryd.zeroValue21
  t37 := Tryd.underlying104
  a37 := Tryd.isAgg104
  z37 := Tryd.sizeOf104
  v37 := Tryd.zeroValue104
  t46 := Tryd.underlying129
  a46 := Tryd.isAgg129
  z46 := Tryd.sizeOf129
  v46 := Tryd.zeroValue129
  t51 := Tryd.underlying187
  a51 := Tryd.isAgg187
  z51 := Tryd.sizeOf187
  v51 := Tryd.zeroValue187
  t53 := Tryd.underlying169
  a53 := Tryd.isAgg169
  z53 := Tryd.sizeOf169
  v53 := Tryd.zeroValue169
  t75 := Tryd.underlying109
  a75 := Tryd.isAgg109
  z75 := Tryd.sizeOf109
  v75 := Tryd.zeroValue109
  t76 := Tryd.underlying110
  a76 := Tryd.isAgg110
  z76 := Tryd.sizeOf110
  v76 := Tryd.zeroValue110
  t85 := Tryd.underlying158
  a85 := Tryd.isAgg158
  z85 := Tryd.sizeOf158
  v85 := Tryd.zeroValue158
  t127 := Tryd.underlying137
  a127 := Tryd.isAgg137
  z127 := Tryd.sizeOf137
  v127 := Tryd.zeroValue137
  t143 := Tryd.underlying194
  a143 := Tryd.isAgg194
  z143 := Tryd.sizeOf194
  v143 := Tryd.zeroValue194
  t145 := Tryd.underlying196
  a145 := Tryd.isAgg196
  z145 := Tryd.sizeOf196
  v145 := Tryd.zeroValue196
  t167 := Tryd.underlying157
  a167 := Tryd.isAgg157
  z167 := Tryd.sizeOf157
  v167 := Tryd.zeroValue157
  t168 := Tryd.underlying160
  a168 := Tryd.isAgg160
  z168 := Tryd.sizeOf160
  v168 := Tryd.zeroValue160
  t171 := Tryd.underlying168
  a171 := Tryd.isAgg168
  z171 := Tryd.sizeOf168
  v171 := Tryd.zeroValue168
  t173 := Tryd.underlying172
  a173 := Tryd.isAgg172
  z173 := Tryd.sizeOf172
  v173 := Tryd.zeroValue172
  t175 := Tryd.underlying176
  a175 := Tryd.isAgg176
  z175 := Tryd.sizeOf176
  v175 := Tryd.zeroValue176
  t210 := Tryd.underlying179
  a210 := Tryd.isAgg179
  z210 := Tryd.sizeOf179
  v210 := Tryd.zeroValue179
  t212 := Tryd.underlying186
  a212 := Tryd.isAgg186
  z212 := Tryd.sizeOf186
  v212 := Tryd.zeroValue186
  t213 := Tryd.underlying188
  a213 := Tryd.isAgg188
  z213 := Tryd.sizeOf188
  t232 := Tryd.underlying203
  a232 := Tryd.isAgg203
  z232 := Tryd.sizeOf203
  v232 := Tryd.zeroValue203
  t233 := Tryd.underlying204
  a233 := Tryd.isAgg204
  z233 := Tryd.sizeOf204
  v233 := Tryd.zeroValue204
  g15 := by kernel_rfl
  g16 := by kernel_rfl
  g17 := by kernel_rfl
  g18 := by kernel_rfl
  g19 := by kernel_rfl
  t80 := Tryd.underlying112
  a80 := Tryd.isAgg112
  z80 := Tryd.sizeOf112
  v80 := Tryd.zeroValue112
  i0 := by kernel_rfl
  i2 := by kernel_rfl
  i3 := by kernel_rfl
  i4 := by kernel_rfl
  i5 := by kernel_rfl
  i9 := by kernel_rfl
  i20 := by kernel_rfl
  i21 := by kernel_rfl
  i37 := by kernel_rfl
  i46 := by kernel_rfl
  i51 := by kernel_rfl
  i53 := by kernel_rfl
  i75 := by kernel_rfl
  i76 := by kernel_rfl
  i80 := by kernel_rfl
  i85 := by kernel_rfl
  i127 := by kernel_rfl
  i143 := by kernel_rfl
  i145 := by kernel_rfl
  i167 := by kernel_rfl
  i168 := by kernel_rfl
  i171 := by kernel_rfl
  i173 := by kernel_rfl
  i175 := by kernel_rfl
  i210 := by kernel_rfl
  i212 := by kernel_rfl
  i232 := by kernel_rfl
  i233 := by kernel_rfl
  m15 := by kernel_rfl
  m16 := by kernel_rfl
  m17 := by kernel_rfl
  m18 := by kernel_rfl
  m19 := by kernel_rfl
  c0 := by kernel_rfl
  c2 := by kernel_rfl
  c3 := by kernel_rfl
  c4 := by kernel_rfl
  c5 := by kernel_rfl
  c9 := by kernel_rfl
  c20 := by kernel_rfl
  c21 := by kernel_rfl
  c37 := by kernel_rfl
  c46 := by kernel_rfl
  c51 := by kernel_rfl
  c53 := by kernel_rfl
  c75 := by kernel_rfl
  c76 := by kernel_rfl
  c80 := by kernel_rfl
  c85 := by kernel_rfl
  c127 := by kernel_rfl
  c143 := by kernel_rfl
  c145 := by kernel_rfl
  c167 := by kernel_rfl
  c168 := by kernel_rfl
  c171 := by kernel_rfl
  c173 := by kernel_rfl
  c175 := by kernel_rfl
  c210 := by kernel_rfl
  c212 := by kernel_rfl
  c213 := by kernel_rfl
  c232 := by kernel_rfl
  c233 := by kernel_rfl }
open Go.RowKit in
theorem Tryd.strconv_Atoi_ok (s : ByteArray) (hmax : s.size ≤ 9223372036854775806) (v : Int) (h : Lib.atoiAll s.data.toList = .ok v) (w : World) :
    Calls Tryd.prog 72 #[.string s] w fun e w' => e = .returned (.tuple #[.int .i64 v, .nilIface]) ∧ (w' = w ∨ ∃ t, w' = Lib.bytesWorld w 5 t) := Any.strconv_Atoi_ok Tryd.laysC172 s hmax v h w
open Go.RowKit in
theorem Tryd.strconv_Atoi_bad (s : ByteArray) (hlim : s.size ≤ 281474976710656) (h1 : ∀ v, Lib.atoiAll s.data.toList ≠ .ok v) (h2 : Lib.atoiAll s.data.toList ≠ .range) (ev : Value) (w : World) (hv : w.cell? ⟨1, 0, none⟩ = some ev) (hev : ev = .nilIface ∨ ∃ te pe, ev = .iface te pe) :
    Calls Tryd.prog 72 #[.string s] w fun e w' => ∃ N, e = .returned (.tuple #[.int .i64 (0), .iface 160 (.pointer (some ⟨N, 0, none⟩))]) ∧ w.heap.size ≤ N ∧ w'.heap[N]? = some (.cells #[.string ⟨#[65, 116, 111, 105]⟩, .string s, ev] 179 (0, 0)) ∧ Below w.heap.size w w' := Any.strconv_Atoi_syntax Tryd.laysC172 s hlim (by cases e : Lib.atoiAll s.data.toList <;> first | rfl | exact absurd e (h1 _) | exact absurd e h2) ev w hv hev
open Go.RowKit in
theorem Tryd.strconv_Atoi_range (s : ByteArray) (hlim : s.size ≤ 281474976710656) (h : Lib.atoiAll s.data.toList = .range) (ev : Value) (w : World) (hv : w.cell? ⟨2, 0, none⟩ = some ev) (hev : ev = .nilIface ∨ ∃ te pe, ev = .iface te pe) :
    Calls Tryd.prog 72 #[.string s] w fun e w' => ∃ N, e = .returned (.tuple #[.int .i64 (Lib.atoiSat s.data.toList), .iface 160 (.pointer (some ⟨N, 0, none⟩))]) ∧ w.heap.size ≤ N ∧ w'.heap[N]? = some (.cells #[.string ⟨#[65, 116, 111, 105]⟩, .string s, ev] 179 (0, 0)) ∧ Below w.heap.size w w' := Any.strconv_Atoi_range Tryd.laysC172 s hlim h ev w hv hev
def Tryd.lays219_ren : Go.Shelf.Ren := ⟨fun | 219 => 106 | 217 => 124 | 225 => 125 | 224 => 126 | 267 => 127 | 266 => 143 | 314 => 144 | n => n, fun | 9 => 9 | 3 => 3 | 4 => 4 | 5 => 5 | 46 => 129 | 146 => 191 | 51 => 187 | n => n, fun | 1 => 0 | n => n⟩
theorem Tryd.lays219 : Go.Proofs.Lays.n219 Tryd.prog Tryd.lays219_ren := {
  mixed := by kernel_rfl
  f217 := Tryd.func124.trans (congrArg some (by kernel_rfl))
  f219 := Tryd.func106.trans (congrArg some (by kernel_rfl))
  f224 := Tryd.func126.trans (congrArg some (by kernel_rfl))
  f225 := Tryd.func125.trans (congrArg some (by kernel_rfl))
  f266 := Tryd.func143.trans (congrArg some (by kernel_rfl))
  f267 := Tryd.func127.trans (congrArg some (by kernel_rfl))
  f314 := Tryd.func144.trans (congrArg some (by kernel_rfl))
  t3 := Tryd.underlying3
  a3 := Tryd.isAgg3
  z3 := Tryd.sizeOf3
  v3 := Tryd.zeroValue3
  t4 := Tryd.underlying4
  a4 := Tryd.isAgg4
  z4 := Tryd.sizeOf4
  v4 := Tryd.zeroValue4
  t5 := Tryd.underlying5
  a5 := Tryd.isAgg5
  z5 := Tryd.sizeOf5
  v5 := Tryd.zeroValue5
  t9 := Tryd.underlying9
  a9 := Tryd.isAgg9
  z9 := Tryd.sizeOf9
  v9 := Tryd.zeroValue9
  t46 := Tryd.underlying129
  a46 := Tryd.isAgg129
  z46 := Tryd.sizeOf129
  v46 := Tryd.zeroValue129
  t51 := Tryd.underlying187
  a51 := Tryd.isAgg187
  z51 := Tryd.sizeOf187
  v51 := Tryd.zeroValue187
  t146 := Tryd.underlying191
  a146 := Tryd.isAgg191
  z146 := Tryd.sizeOf191
  v146 := Tryd.zeroValue191
  g1 := by kernel_rfl }
open Go.RowKit Go.Lib in
theorem Tryd.stringslite_Index_one (s : ByteArray) (c : UInt8) (w : World) :
    Calls Tryd.prog 106 #[.string s, .string ⟨#[c]⟩] w fun e w' => e = .returned (.int .i64 (Lib.indexByte s.data.toList c)) ∧ w' = w := Any.stringslite_Index_one Tryd.lays219 s c w
def Tryd.laysM146_ren : Go.Shelf.Ren := ⟨fun | 146 => 79 | 221 => 98 | 268 => 113 | 138 => 114 | 143 => 115 | 195 => 132 | 197 => 133 | 218 => 134 | 219 => 106 | 260 => 147 | 217 => 124 | 225 => 125 | 224 => 126 | 267 => 127 | 266 => 143 | 314 => 144 | n => n, fun | 9 => 9 | 31 => 121 | 3 => 3 | 4 => 4 | 0 => 0 | 105 => 165 | 21 => 21 | 5 => 5 | 46 => 129 | 119 => 199 | 139 => 202 | 138 => 201 | 146 => 191 | 51 => 187 | n => n, fun | 1 => 0 | 3 => 4 | 4 => 5 | n => n⟩
theorem Tryd.laysM146 : Go.Proofs.LaysM.n146 Tryd.prog Tryd.laysM146_ren := {
  mixed := by kernel_rfl
  f138 := Tryd.func114.trans (congrArg some (by kernel_rfl))
  f143 := Tryd.func115.trans (congrArg some (by kernel_rfl))
  f146 := Tryd.func79.trans (congrArg some (by kernel_rfl))
  f195 := Tryd.func132.trans (congrArg some (by kernel_rfl))
  f197 := Tryd.func133.trans (congrArg some (by kernel_rfl))
  f217 := Tryd.func124.trans (congrArg some (by kernel_rfl))
  f218 := Tryd.func134.trans (congrArg some (by kernel_rfl))
  f219 := Tryd.func106.trans (congrArg some (by kernel_rfl))
  f221 := Tryd.func98.trans (congrArg some (by kernel_rfl))
  f224 := Tryd.func126.trans (congrArg some (by kernel_rfl))
  f225 := Tryd.func125.trans (congrArg some (by kernel_rfl))
  f260 := Tryd.func147.trans (congrArg some (by kernel_rfl))
  f266 := Tryd.func143.trans (congrArg some (by kernel_rfl))
  f267 := Tryd.func127.trans (congrArg some (by kernel_rfl))
  f268 := Tryd.func113.trans (congrArg some (by kernel_rfl))
  f314 := Tryd.func144.trans (congrArg some (by kernel_rfl))
  t0 := Tryd.underlying0
  a0 := Tryd.isAgg0
  z0 := Tryd.sizeOf0
  v0 := Tryd.zeroValue0
  t3 := Tryd.underlying3
  a3 := Tryd.isAgg3
  z3 := Tryd.sizeOf3
  v3 := Tryd.zeroValue3
  t4 := Tryd.underlying4
  a4 := Tryd.isAgg4
  z4 := Tryd.sizeOf4
  v4 := Tryd.zeroValue4
  t5 := Tryd.underlying5
  a5 := Tryd.isAgg5
  z5 := Tryd.sizeOf5
  v5 := Tryd.zeroValue5
  t9 := Tryd.underlying9
  a9 := Tryd.isAgg9
  z9 := Tryd.sizeOf9
  v9 := Tryd.zeroValue9
  t21 := Tryd.underlying21
  a21 := Tryd.isAgg21
  z21 := Tryd.sizeOf21
  v21 := Tryd.zeroValue21
  t31 := Tryd.underlying121
  a31 := Tryd.isAgg121
  z31 := Tryd.sizeOf121
  v31 := Tryd.zeroValue121
  t46 := Tryd.underlying129
  a46 := Tryd.isAgg129
  z46 := Tryd.sizeOf129
  v46 := Tryd.zeroValue129
  t51 := Tryd.underlying187
  a51 := Tryd.isAgg187
  z51 := Tryd.sizeOf187
  v51 := Tryd.zeroValue187
  t105 := Tryd.underlying165
  a105 := Tryd.isAgg165
  z105 := Tryd.sizeOf165
  v105 := Tryd.zeroValue165
  t119 := Tryd.underlying199
  a119 := Tryd.isAgg199
  z119 := Tryd.sizeOf199
  t138 := Tryd.underlying201
  a138 := Tryd.isAgg201
  z138 := Tryd.sizeOf201
  v138 := Tryd.zeroValue201
  t139 := Tryd.underlying202
  a139 := Tryd.isAgg202
  z139 := Tryd.sizeOf202
  v139 := Tryd.zeroValue202
  t146 := Tryd.underlying191
  a146 := Tryd.isAgg191
  z146 := Tryd.sizeOf191
  v146 := Tryd.zeroValue191
  g1 := by kernel_rfl
  g3 := by kernel_rfl
  g4 := by kernel_rfl
  i0 := by kernel_rfl
  i3 := by kernel_rfl
  i4 := by kernel_rfl
  i5 := by kernel_rfl
  i9 := by kernel_rfl
  i21 := by kernel_rfl
  i31 := by kernel_rfl
  i46 := by kernel_rfl
  i51 := by kernel_rfl
  i105 := by kernel_rfl
  i138 := by kernel_rfl
  i139 := by kernel_rfl
  i146 := by kernel_rfl
  m1 := by kernel_rfl
  s1_3 := fun w h => Go.Proofs.cell_of_shapedOpen_int (zero := #[.int .i64 0]) (t := 3) h (of_decide_eq_true (by kernel_rfl)) (by kernel_rfl) rfl (by kernel_rfl) (by kernel_rfl) Tryd.underlying3
  m3 := by kernel_rfl
  m4 := by kernel_rfl }
end Go.Proofs
end

section
/- What the walks ask of the package's variables (the two errors of strconv, its table of powers, the search's limit), and that it holds on while nothing that was there is written. -/
set_option linter.unusedVariables false
namespace Go.Proofs.YtpmieapgbdbabaaDoor.QAll
open Go.RowKit Go.Proofs.YtpmieapgbdbabaaDoorW.PrintWords Go.Proofs.YtpmieapgbdbabaaDoorW.PrintLast Go.Proofs.YtpmieapgbdbabaaDoorW.PrintMore
structure EnvW (w : World) : Prop where
  mx : ∃ m, w.cell? ⟨0, 0, none⟩ = some (.int .i64 m)
  syn : ∃ ev, w.cell? ⟨1, 0, none⟩ = some ev ∧ (ev = .nilIface ∨ ∃ te pe, ev = .iface te pe)
  rng : ∃ ev, w.cell? ⟨2, 0, none⟩ = some ev ∧ (ev = .nilIface ∨ ∃ te pe, ev = .iface te pe)
  tab : Lib.TabIs Tryd.prog w "internal/strconv.uint64pow10" .u64 Lib.pow10Tab
theorem EnvW.below {w w' : World} (h : EnvW w) (hb : Below w.heap.size w w') : EnvW w' := by
  obtain ⟨⟨m, hm⟩, ⟨ev, hs, hs2⟩, ⟨ev2, hr, hr2⟩, ht⟩ := h
  refine ⟨⟨m, pw_cell_below hb hm⟩, ⟨ev, pw_cell_below hb hs, hs2⟩, ⟨ev2, pw_cell_below hb hr, hr2⟩, ?_⟩
  unfold Lib.TabIs World.var? at ht ⊢
  cases hg : Tryd.prog.globalNamed "internal/strconv.uint64pow10" with
  | none => simp [hg] at ht
  | some g =>
    simp only [hg, Option.bind_some] at ht ⊢
    have hlt : g < w.heap.size := by
      rcases Nat.lt_or_ge g w.heap.size with h' | h'
      · exact h'
      · simp [Array.getElem?_eq_none h'] at ht
    rw [hb.block g hlt]
    exact ht
end Go.Proofs.YtpmieapgbdbabaaDoor.QAll
end

section
/- strconv.Itoa of a number from 0 to 99, by the shelf's contract: its digits. -/
set_option linter.unusedVariables false
namespace Go.Proofs.YtpmieapgbdbabaaDoor.QAll
open Go.RowKit Go.Proofs.YtpmieapgbdbabaaDoorW.PrintWords Go.Proofs.YtpmieapgbdbabaaDoorW.PrintLast Go.Proofs.YtpmieapgbdbabaaDoorW.PrintMore
def strconv_Itoa_69.f (a0 : Int) : Option ByteArray := if 0 ≤ a0 ∧ a0 < 100 then some ⟨(Lib.decDigits a0.toNat).toArray⟩ else none
end Go.Proofs.YtpmieapgbdbabaaDoor.QAll
end

section
/- strings.Join and strconv.Itoa, in the shape that the walks take them. -/
set_option linter.unusedVariables false
set_option linter.unusedSimpArgs false
namespace Go.Proofs.YtpmieapgbdbabaaDoor.QAll
open Go.RowKit Go.Shelf Go.Proofs.YtpmieapgbdbabaaDoorW.PrintWords Go.Proofs.YtpmieapgbdbabaaDoorW.PrintLast Go.Proofs.YtpmieapgbdbabaaDoorW.PrintMore

def joinL (l : List ByteArray) (sep : ByteArray) : List UInt8 := Lib.join (l.map (·.data.toList)) sep.data.toList
def joinS (l : List ByteArray) (sep : ByteArray) : ByteArray := ⟨(joinL l sep).toArray⟩
def strings_Join.f (l0 : List ByteArray) (a1 : ByteArray) : Option ByteArray := if 0 < l0.length ∧ l0.length ≤ 1000000 ∧ (joinL l0 a1).length ≤ 140737488355328 then some (joinS l0 a1) else none
theorem strings_Join.calls (A0 : Option Addr) (c0 : Nat) (l0 : List ByteArray) (a1 : ByteArray) (r : ByteArray) (w : World) (hr0 : Kd.C Kd.string w A0 l0.length l0) (hc0 : l0.length ≤ c0) (h : strings_Join.f l0 a1 = some r) :
    Calls Tryd.prog 77 #[.slice A0 l0.length c0, .string a1] w fun e w' => e = .returned (.string r) ∧ Below w.heap.size w w' := by
  unfold strings_Join.f at h
  split at h
  case isFalse => cases h
  rename_i hs
  obtain rfl := Option.some.inj h
  obtain ⟨h0, h1, h2⟩ := hs
  obtain ⟨ad, rfl, hcs⟩ := hr0.2.2 h0
  have hcell : ∀ (j : Nat) x, l0[j]? = some x → w.cell? (ad.add j) = some (.string x) := by
    intro j x hj
    obtain ⟨c, _, hk, hcc⟩ := hcs j x hj
    have hk' : c = [.string x] := hk
    subst hk'
    have := hcc 0 _ rfl
    rw [show Kd.string.sz = 1 from rfl, Nat.mul_one, Nat.add_zero] at this
    exact this
  obtain ⟨bk, o, sp⟩ := ad
  have hsp : sp = none := by
    have h' := hcell 0 _ (List.getElem?_eq_getElem h0)
    unfold Addr.add at h'
    rw [if_pos rfl] at h'
    unfold World.cell? at h'
    split at h'
    · split at h'
      · cases h'
      · rename_i hn
        cases sp with
        | none => rfl
        | some x => exact absurd rfl hn
    · cases h'
  subst hsp
  have hc : ∀ (j : Nat) x, l0[j]? = some x → w.cell? ⟨bk, o + j, none⟩ = some (.string x) := by
    intro j x hj
    have := hcell j x hj
    unfold Addr.add at this
    split at this
    · rename_i h0'
      subst h0'
      exact this
    · exact this
  refine Tryd.strings_Join bk o c0 l0 a1 w hc ?_ (by omega) hc0 h2
  exact World.block_lt_of_cell? w _ (hc 0 _ (List.getElem?_eq_getElem h0))
theorem below_grown (w : World) (k : Nat) (os : Array Obj) : Below w.heap.size w (Go.Sort.grow (w.drewN k) os) := Lib.below_grow _ w (Nat.le_refl _) k os
def itoaB (n : Int) : ByteArray := ⟨(Lib.itoa n).toArray⟩
theorem itoa_any (n : Int) (h0 : -9223372036854775808 ≤ n) (h1 : n ≤ 9223372036854775807) (w : World) (hE : EnvW w) :
    Calls Tryd.prog 69 #[.int .i64 n] w fun e w' => e = .returned (.string (itoaB n)) ∧ Below w.heap.size w w' := by
  refine (Tryd.strconv_Itoa n h0 h1 w hE.tab).mono ?_
  rintro e w' ⟨rfl, k, os, rfl⟩
  exact ⟨rfl, below_grown w k os⟩
end Go.Proofs.YtpmieapgbdbabaaDoor.QAll
end

section
/- Walks, written by a program of this session (wip/pp): a Go function comes to what the Lean function beside it tells. -/
namespace Go.Proofs.YtpmieapgbdbabaaDoor.QAll
open Go.RowKit Go.Proofs.YtpmieapgbdbabaaDoorW.PrintWords Go.Proofs.YtpmieapgbdbabaaDoorW.PrintLast Go.Proofs.YtpmieapgbdbabaaDoorW.PrintMore
attribute [local go_sem] max2_int min2_int max_two min_two max_three min_three max_four min_four
set_option linter.unusedVariables false
set_option linter.unusedSimpArgs false

def call_letter.f (a0 : Int) : Option (Bool) := if a0 ≥ 65 then (if a0 ≤ 90 then (some true) else (if a0 ≥ 48 then (some (decide (a0 ≤ 57))) else (some false))) else (if a0 ≥ 48 then (some (decide (a0 ≤ 57))) else (some false))
end Go.Proofs.YtpmieapgbdbabaaDoor.QAll
end

section
/- call.Right, walked by hand: it tells whether all bytes of the base are letters or digits, and the lengths and the number are in their ranges, for every call. -/
set_option linter.unusedVariables false
set_option linter.unusedSimpArgs false
namespace Go.Proofs.YtpmieapgbdbabaaDoor.QAll
open Go.RowKit Go.Proofs.YtpmieapgbdbabaaDoorW.PrintWords Go.Proofs.YtpmieapgbdbabaaDoorW.PrintLast Go.Proofs.YtpmieapgbdbabaaDoorW.PrintMore

/-- May the byte c stand in a call? -/
def letB (c : Int) : Bool := decide (65 ≤ c ∧ c ≤ 90 ∨ 48 ≤ c ∧ c ≤ 57)
def letsB (s : ByteArray) : Bool := s.data.toList.all fun c => letB c.toNat
theorem bt_data (s : ByteArray) (j : Nat) (h : j < s.size) : bt s j = ((s.data.toList[j]'(by simpa using h)).toNat : Int) := by
  unfold bt
  rw [dif_pos (by simpa using h)]
  rfl
def rightB (s : ByteArray) (n : Int) : Bool := letsB s && (decide (1 ≤ s.size) && (decide (s.size ≤ 6) && (decide (0 ≤ n) && decide (n ≤ 15))))
def call_Right.f (a0_0 : ByteArray) (a0_1 : Int) : Option Bool := if a0_0.size ≤ 9223372036854775807 then some (rightB a0_0 a0_1) else none

end Go.Proofs.YtpmieapgbdbabaaDoor.QAll
end

section
/- Walks, written by a program of this session (wip/pp): a Go function comes to what the Lean function beside it tells. -/
namespace Go.Proofs.YtpmieapgbdbabaaDoor.QAll
open Go.RowKit Go.Proofs.YtpmieapgbdbabaaDoorW.PrintWords Go.Proofs.YtpmieapgbdbabaaDoorW.PrintLast Go.Proofs.YtpmieapgbdbabaaDoorW.PrintMore
attribute [local go_sem] max2_int min2_int max_two min_two max_three min_three max_four min_four
set_option linter.unusedVariables false
set_option linter.unusedSimpArgs false

def call_bit.f (a0 : Bool) (a1 : Int) : Option (Int) := if a0 = true then (some a1) else (some 0)
end Go.Proofs.YtpmieapgbdbabaaDoor.QAll
end

section
/- call.Put, walked by hand: the seven bytes of a right call, or none and ErrCall, for every call. -/
set_option linter.unusedVariables false
set_option linter.unusedSimpArgs false
namespace Go.Proofs.YtpmieapgbdbabaaDoor.QAll
open Go.RowKit Go.Proofs.YtpmieapgbdbabaaDoorW.PrintWords Go.Proofs.YtpmieapgbdbabaaDoorW.PrintLast Go.Proofs.YtpmieapgbdbabaaDoorW.PrintMore

/-- The i-th letter's byte. -/
def putAt (s : ByteArray) (i : Nat) : Int := if i < s.size then bt s i * 2 else 64
/-- The last byte. -/
def putEnd (n : Int) (mark last : Bool) : Int := (if mark = true then 128 else 0) + 96 + 2 * n + (if last = true then 1 else 0)
def putL (s : ByteArray) (n : Int) (mark last : Bool) : List Int := [putAt s 0, putAt s 1, putAt s 2, putAt s 3, putAt s 4, putAt s 5, putEnd n mark last]
def call_Put.f (a0_0 : ByteArray) (a0_1 : Int) (a1 a2 : Bool) : Option (ByteArray × Int) :=
  if a0_0.size ≤ 9223372036854775807 then (if rightB a0_0 a0_1 = true then some (strOfNums (putL a0_0 a0_1 a1 a2), 0) else some (⟨#[]⟩, 12)) else none

/-- Behind k rounds: the array in block B. -/
def PutAt (s : ByteArray) (B k : Nat) (w : World) : Prop := ∃ cur, w.heap[B]? = some (.cells cur 128 (0, 0)) ∧ cur.size = 7 ∧ ∀ j : Nat, j < k → cur[j]? = some (.int .u8 (putAt s j))
theorem PutAt.cell {s : ByteArray} {B k : Nat} {w : World} (h : PutAt s B k w) (j : Nat) (hj : j < 7) : ∃ v, w.cell? ⟨B, j, none⟩ = some v := by
  obtain ⟨cur, hb, hm, hc⟩ := h
  simp only [World.cell?, hb]
  exact ⟨cur[j]'(by omega), Array.getElem?_eq_getElem (by omega)⟩
theorem PutAt.frozen {s : ByteArray} {B k : Nat} {w : World} (h : PutAt s B k w) (j : Nat) : w.frozen? ⟨B, j, none⟩ = false := by
  obtain ⟨cur, hb, hm, hc⟩ := h
  simp [World.frozen?, hb]
theorem PutAt.set {s : ByteArray} {B k : Nat} {w : World} (h : PutAt s B k w) (x : Value) : PutAt s B k (w.setCell ⟨B, k, none⟩ x) := by
  obtain ⟨cur, hb, hm, hc⟩ := h
  refine ⟨cur.setIfInBounds k x, ?_, by simpa using hm, fun j hj => ?_⟩
  · simp [World.setCell, Array.getElem?_modify, hb]
  · rw [Array.getElem?_setIfInBounds, if_neg (by omega), hc j hj]
end Go.Proofs.YtpmieapgbdbabaaDoor.QAll
end

section
/- call.upper, walked by hand: a word with its small letters made great, for every word. -/
set_option linter.unusedVariables false
set_option linter.unusedSimpArgs false
namespace Go.Proofs.YtpmieapgbdbabaaDoor.QAll
open Go.RowKit Go.Proofs.YtpmieapgbdbabaaDoorW.PrintWords Go.Proofs.YtpmieapgbdbabaaDoorW.PrintLast Go.Proofs.YtpmieapgbdbabaaDoorW.PrintMore

/-- A small letter made great. -/
def upI (c : Int) : Int := if 97 ≤ c ∧ c ≤ 122 then c - 97 + 65 else c
def upL (s : ByteArray) : List Int := (bytesOf s).map upI
def upperS (s : ByteArray) : ByteArray := strOfNums (upL s)
def call_upper.f (a0 : ByteArray) : Option ByteArray := if a0.size ≤ 9223372036854775807 then some (upperS a0) else none
/-- Behind k rounds: block B holds the first k made great, the others as they were. -/
def UpAt (s : ByteArray) (B k : Nat) (w : World) : Prop := ∃ cur m, w.heap[B]? = some (.cells cur 5 (m, m + 1)) ∧ s.size ≤ m ∧
  ∀ j : Nat, j < s.size → cur[j]? = some (.int .u8 (if j < k then upI (bt s j) else bt s j))
theorem UpAt.cell {s : ByteArray} {B k : Nat} {w : World} (h : UpAt s B k w) (j : Nat) (hj : j < s.size) : w.cell? ⟨B, j, none⟩ = some (.int .u8 (if j < k then upI (bt s j) else bt s j)) := by
  obtain ⟨cur, m, hb, hm, hc⟩ := h
  simp only [World.cell?, hb]
  exact hc j hj
theorem UpAt.frozen {s : ByteArray} {B k : Nat} {w : World} (h : UpAt s B k w) (j : Nat) (hj : j < s.size) : w.frozen? ⟨B, j, none⟩ = false := by
  obtain ⟨cur, m, hb, hm, hc⟩ := h
  simp only [World.frozen?, hb]
  simp
  omega
end Go.Proofs.YtpmieapgbdbabaaDoor.QAll
end

section
/- strings.Cut at a separator of one byte, walked by hand over the shelf's contract of Index: what stands ahead of the first such byte, and behind it, for every text. -/
set_option linter.unusedVariables false
set_option linter.unusedSimpArgs false
namespace Go.Proofs.YtpmieapgbdbabaaDoor.QAll
open Go.RowKit Go.Proofs.YtpmieapgbdbabaaDoorW.PrintWords Go.Proofs.YtpmieapgbdbabaaDoorW.PrintLast Go.Proofs.YtpmieapgbdbabaaDoorW.PrintMore

/-- Where the first byte c stands; the length, if there is none. -/
def idxOf (s : ByteArray) (c : UInt8) : Nat := (Lib.indexByte s.data.toList c).toNat
def cutHas (s : ByteArray) (c : UInt8) : Bool := decide (0 ≤ Lib.indexByte s.data.toList c)
def cutA (s : ByteArray) (c : UInt8) : ByteArray := if cutHas s c = true then s.extract 0 (idxOf s c) else s
def cutB (s : ByteArray) (c : UInt8) : ByteArray := if cutHas s c = true then s.extract (idxOf s c + 1) s.size else ⟨#[]⟩

theorem indexByte_lt : ∀ (l : List UInt8) (c : UInt8) (i : Nat), Lib.indexByte l c = i → i < l.length
  | [], c, i, h => by
    simp only [Lib.indexByte] at h
    omega
  | b :: l, c, i, h => by
    have hg := Lib.indexByte_ge l c
    simp only [Lib.indexByte] at h
    by_cases e : (b == c) = true
    · rw [if_pos e] at h; simp only [List.length_cons]; omega
    · rw [if_neg e] at h
      by_cases e2 : (Lib.indexByte l c == -1) = true
      · rw [if_pos e2] at h; omega
      · rw [if_neg e2] at h
        have e3 : Lib.indexByte l c ≠ -1 := by simpa using e2
        have := indexByte_lt l c (i - 1) (by omega)
        simp only [List.length_cons]; omega

set_option maxHeartbeats 1000000 in
set_option maxRecDepth 100000 in
theorem slCut_one (s : ByteArray) (c : UInt8) (w : World) (hs : s.size ≤ 9223372036854775807) :
    Calls Tryd.prog 92 #[.string s, .string ⟨#[c]⟩] w fun e w' => e = .returned (.tuple #[.string (cutA s c), .string (cutB s c), .bool (cutHas s c)]) ∧ Drawn0 w w' := by
  by_cases h : 0 ≤ Lib.indexByte s.data.toList c
  · obtain ⟨i, hi⟩ := Int.eq_ofNat_of_zero_le h
    have hlt : i < s.size := by have := indexByte_lt _ _ _ hi; simpa using this
    have HA := Aside0.mk (show cutA s c = s.extract 0 i by unfold cutA cutHas idxOf; rw [hi]; simp)
    have HB := Aside0.mk (show cutB s c = s.extract (i + 1) s.size by unfold cutB cutHas idxOf; rw [hi]; simp)
    have HH := Aside0.mk (show cutHas s c = true by unfold cutHas; rw [hi]; simp)
    have HI := Aside0.mk hi
    clear h hi
    go_enter Tryd.func92, Tryd.ntmps92
    go_wp2_with (go_at_call 106; refine (Tryd.stringslite_Index_one s c _).mono ?_; rw [HI.out]; rintro e w' ⟨rfl, rfl⟩)
    have h0 : (0 : Int) ≤ (i : Int) := by omega
    have h1 : (i : Int) ≤ (s.size : Int) := by omega
    have h2 : (i : Int) + 1 ≤ (s.size : Int) := by omega
    go_quiet (fail)
    go_wp2
    go_ret3
    exact ⟨by rw [HA.out, HB.out, HH.out]; rfl, ⟨_, rfl⟩⟩
  · have HA := Aside0.mk (show cutA s c = s by unfold cutA cutHas; rw [decide_eq_false h]; simp)
    have HB := Aside0.mk (show cutB s c = ⟨#[]⟩ by unfold cutB cutHas; rw [decide_eq_false h]; simp)
    have HH := Aside0.mk (show cutHas s c = false by unfold cutHas; rw [decide_eq_false h])
    have hm : Lib.indexByte s.data.toList c = -1 := by have := Lib.indexByte_ge s.data.toList c; omega
    have HI := Aside0.mk hm
    clear h hm
    go_enter Tryd.func92, Tryd.ntmps92
    go_wp2_with (go_at_call 106; refine (Tryd.stringslite_Index_one s c _).mono ?_; rw [HI.out]; rintro e w' ⟨rfl, rfl⟩)
    go_ret3
    exact ⟨by rw [HA.out, HB.out, HH.out]; rfl, Drawn0.refl _⟩
theorem cut_one (s : ByteArray) (c : UInt8) (w : World) (hs : s.size ≤ 9223372036854775807) :
    Calls Tryd.prog 70 #[.string s, .string ⟨#[c]⟩] w fun e w' => e = .returned (.tuple #[.string (cutA s c), .string (cutB s c), .bool (cutHas s c)]) ∧ Drawn0 w w' := by
  go_enter Tryd.func70, Tryd.ntmps70
  go_wp2_with (go_at_call 92; refine (slCut_one s c _ hs).mono ?_; rintro e w' ⟨rfl, ⟨nd, rfl⟩⟩)
  go_ret3
  exact ⟨rfl, ⟨_, rfl⟩⟩
end Go.Proofs.YtpmieapgbdbabaaDoor.QAll
end

section
/- call.Parse, walked by hand: the call of a word, or none and ErrCall, for every word. -/
set_option linter.unusedVariables false
set_option linter.unusedSimpArgs false
namespace Go.Proofs.YtpmieapgbdbabaaDoor.QAll
open Go.RowKit Go.Proofs.YtpmieapgbdbabaaDoorW.PrintWords Go.Proofs.YtpmieapgbdbabaaDoorW.PrintLast Go.Proofs.YtpmieapgbdbabaaDoorW.PrintMore

/-- The number behind the dash; none, if there is none so written. -/
def numOf (s : ByteArray) : Option Int := match Lib.atoiAll s.data.toList with
  | .ok v => if Lib.itoa v = s.data.toList then some v else none
  | _ => none
/-- What Parse tells. -/
def parseS (s : ByteArray) : ByteArray × Int × Int :=
  if cutHas (upperS s) 45 = true then
    match numOf (cutB (upperS s) 45) with
    | some v => if rightB (cutA (upperS s) 45) v = true then (cutA (upperS s) 45, v, 0) else (⟨#[]⟩, 0, 12)
    | none => (⟨#[]⟩, 0, 12)
  else if rightB (cutA (upperS s) 45) 0 = true then (cutA (upperS s) 45, 0, 0) else (⟨#[]⟩, 0, 12)
def call_Parse.f (a0 : ByteArray) : Option (ByteArray × Int × Int) := if a0.size ≤ 281474976710656 then some (parseS a0) else none

theorem cutB_size (s : ByteArray) (c : UInt8) : (cutB s c).size ≤ s.size := by
  unfold cutB
  split
  · simp only [ByteArray.size_extract]; omega
  · exact Nat.zero_le _
end Go.Proofs.YtpmieapgbdbabaaDoor.QAll
end

section
/- call.Get, walked by hand: the call of seven bytes, its marks, or none, for every text. -/
set_option linter.unusedVariables false
set_option linter.unusedSimpArgs false
namespace Go.Proofs.YtpmieapgbdbabaaDoor.QAll
open Go.RowKit Go.Proofs.YtpmieapgbdbabaaDoorW.PrintWords Go.Proofs.YtpmieapgbdbabaaDoorW.PrintLast Go.Proofs.YtpmieapgbdbabaaDoorW.PrintMore

def halfL (s : ByteArray) (k : Nat) : List Int := (List.range k).map fun j : Nat => bt s (j : Int) / 2
def getBase (s : ByteArray) : ByteArray := ⟨(Lib.trimRightB (strOfNums (halfL s 6)).data.toList 32).toArray⟩
/-- What Get tells. -/
def getS (s : ByteArray) : ByteArray × Int × Bool × Bool × Int :=
  if s.size < 7 then (⟨#[]⟩, 0, false, false, 4) else if 7 < s.size then (⟨#[]⟩, 0, false, false, 5)
  else if rightB (getBase s) (bt s 6 / 2 % 16) = true ∧ strOfNums (putL (getBase s) (bt s 6 / 2 % 16) (decide (128 ≤ bt s 6)) (decide (bt s 6 % 2 = 1))) = s
    then (getBase s, bt s 6 / 2 % 16, decide (128 ≤ bt s 6), decide (bt s 6 % 2 = 1), 0)
  else (⟨#[]⟩, 0, false, false, 2)
def call_Get.f (a0 : ByteArray) : Option (ByteArray × Int × Bool × Bool × Int) := if a0.size ≤ 9223372036854775807 then some (getS a0) else none

end Go.Proofs.YtpmieapgbdbabaaDoor.QAll
end

section
/- path.next, walked by hand: which digipeater is the first that has not sent it; -1, if all have. -/
set_option linter.unusedVariables false
set_option linter.unusedSimpArgs false
namespace Go.Proofs.YtpmieapgbdbabaaDoor.QAll
open Go.RowKit Go.Proofs.YtpmieapgbdbabaaDoorW.PrintWords Go.Proofs.YtpmieapgbdbabaaDoorW.PrintLast Go.Proofs.YtpmieapgbdbabaaDoorW.PrintMore

/-- The first that has not sent it. -/
def nextFrom : Nat → List S93 → Int
  | _, [] => -1
  | i, d :: r => if d.f1 = true then nextFrom (i + 1) r else i
def nextI (l : List S93) : Int := nextFrom 0 l
def path_next.f (a0_0 : ByteArray) (a0_1 : Int) (a0_2 : ByteArray) (a0_3 : Int) (a0_4 : Bool) (a0_5 : Bool) (l0_6 : List S93) : Option Int := if l0_6.length ≤ 1000000 then some (nextI l0_6) else none
end Go.Proofs.YtpmieapgbdbabaaDoor.QAll
end

section
/- Walks, written by a program of this session (wip/pp): a Go function comes to what the Lean function beside it tells. -/
namespace Go.Proofs.YtpmieapgbdbabaaDoor.QAll
open Go.RowKit Go.Proofs.YtpmieapgbdbabaaDoorW.PrintWords Go.Proofs.YtpmieapgbdbabaaDoorW.PrintLast Go.Proofs.YtpmieapgbdbabaaDoorW.PrintMore
attribute [local go_sem] max2_int min2_int max_two min_two max_three min_three max_four min_four
set_option linter.unusedVariables false
set_option linter.unusedSimpArgs false

def path_ordered.l0 : Nat → List (S93) → List (S93) → Int → Int → Option (Bool)
 | 0, _, _, _, _ => none
 | k + 1, x0, x5, x6, x7 => if x7 < x6 then (if 0 ≤ x7 then (if x7 < (x5.length : Int) then (if (rd_T93 x5 x7).f1 = true then (if x7 > 0 then (if 0 ≤ (wrap64 (x7 - 1)) then (if (wrap64 (x7 - 1)) < (x0.length : Int) then (if ((rd_T93 x0 (wrap64 (x7 - 1))).f1 = true) then (path_ordered.l0 k x0 x5 x6 (wrap64 (x7 + 1))) else (some false)) else (none)) else (none)) else (path_ordered.l0 k x0 x5 x6 (wrap64 (x7 + 1)))) else (path_ordered.l0 k x0 x5 x6 (wrap64 (x7 + 1)))) else (none)) else (none)) else (some (decide ((x0.length : Int) ≤ 8)))
def path_ordered.f (k : Nat) (l0 : List (S93)) : Option (Bool) := path_ordered.l0 k l0 l0 (l0.length : Int) 0
end Go.Proofs.YtpmieapgbdbabaaDoor.QAll
end

section
/- path.Right, walked by hand: is a path right? -/
set_option linter.unusedVariables false
set_option linter.unusedSimpArgs false
namespace Go.Proofs.YtpmieapgbdbabaaDoor.QAll
open Go.RowKit Go.Proofs.YtpmieapgbdbabaaDoorW.PrintWords Go.Proofs.YtpmieapgbdbabaaDoorW.PrintLast Go.Proofs.YtpmieapgbdbabaaDoorW.PrintMore

def rightD (d : S93) : Bool := rightB d.f0.f0 d.f0.f1
/-- None has sent it behind one that has not. -/
def ordFrom : Bool → List S93 → Bool
  | _, [] => true
  | p, d :: r => (!d.f1 || p) && ordFrom d.f1 r
def ordB (l : List S93) : Bool := ordFrom true l && decide (l.length ≤ 8)
def pathB (a0 : ByteArray) (n0 : Int) (a1 : ByteArray) (n1 : Int) (l : List S93) : Bool := rightB a0 n0 && (rightB a1 n1 && (l.all rightD && ordB l))
def sizesOk (a0 a1 : ByteArray) (l : List S93) : Bool := decide (a0.size ≤ 9223372036854775807) && (decide (a1.size ≤ 9223372036854775807) && (l.all (fun d => decide (d.f0.f0.size ≤ 9223372036854775807)) && decide (l.length ≤ 1000000)))
def path_Right.f (a0_0 : ByteArray) (a0_1 : Int) (a0_2 : ByteArray) (a0_3 : Int) (a0_4 : Bool) (a0_5 : Bool) (l0_6 : List S93) : Option Bool := if sizesOk a0_0 a0_2 l0_6 = true then some (pathB a0_0 a0_1 a0_2 a0_3 l0_6) else none
end Go.Proofs.YtpmieapgbdbabaaDoor.QAll
end

section
/- path.Get, walked by hand: the path with whose bytes a text begins, or none. -/
set_option linter.unusedVariables false
set_option linter.unusedSimpArgs false
namespace Go.Proofs.YtpmieapgbdbabaaDoor.QAll
open Go.RowKit Go.Proofs.YtpmieapgbdbabaaDoorW.PrintWords Go.Proofs.YtpmieapgbdbabaaDoorW.PrintLast Go.Proofs.YtpmieapgbdbabaaDoorW.PrintMore

/-- The entry that begins at the k-th seven bytes. -/
def pgT (s : ByteArray) (k : Nat) : ByteArray := s.extract (7 * k) (7 * k + 7)
def pgE (s : ByteArray) (k : Nat) : S93 := ⟨⟨(getS (pgT s k)).1, (getS (pgT s k)).2.1⟩, (getS (pgT s k)).2.2.1⟩
/-- What is told behind k entries, which are l. -/
def pgFrom (s : ByteArray) : Nat → Nat → List S93 → Nat × List S93 × Int
  | 0, _, _ => (0, [], 11)
  | f + 1, k, l =>
    if s.size < 7 * k + 7 then (0, [], 4)
    else if (getS (pgT s k)).2.2.2.2 ≠ 0 then (0, [], 2)
    else if k = 10 then (0, [], 11)
    else if (getS (pgT s k)).2.2.2.1 = false then pgFrom s f (k + 1) (l ++ [pgE s k])
    else if k = 0 then (0, [], 2)
    else if ordB ((l ++ [pgE s k]).drop 2) = true then (7 * k + 7, l ++ [pgE s k], 0) else (0, [], 11)
def pgS (s : ByteArray) : Nat × List S93 × Int := pgFrom s 11 0 []
def path_Get.f (a0 : ByteArray) : Option (ByteArray × Int × ByteArray × Int × Bool × Bool × List S93 × Int × Int) :=
  if a0.size ≤ 1000000 then some ((rd_T93 (pgS a0).2.1 0).f0.f0, (rd_T93 (pgS a0).2.1 0).f0.f1, (rd_T93 (pgS a0).2.1 1).f0.f0, (rd_T93 (pgS a0).2.1 1).f0.f1, (rd_T93 (pgS a0).2.1 0).f1, (rd_T93 (pgS a0).2.1 1).f1, (pgS a0).2.1.drop 2, ((pgS a0).1 : Int), (pgS a0).2.2) else none
end Go.Proofs.YtpmieapgbdbabaaDoor.QAll
end

section
/- xid.Text, walked by hand: the words of right parameters, or none. -/
set_option linter.unusedVariables false
set_option linter.unusedSimpArgs false
namespace Go.Proofs.YtpmieapgbdbabaaDoor.QAll
open Go.RowKit Go.Shelf Go.Proofs.YtpmieapgbdbabaaDoorW.PrintWords Go.Proofs.YtpmieapgbdbabaaDoorW.PrintLast Go.Proofs.YtpmieapgbdbabaaDoorW.PrintMore

/-- Which field a parameter's word names. -/
def nameIdx (s : ByteArray) : Option Nat := if s = ⟨#[78, 49]⟩ then some 2 else if s = ⟨#[75]⟩ then some 3 else if s = ⟨#[84, 49]⟩ then some 4 else if s = ⟨#[78, 50]⟩ then some 5 else none
theorem ba_ne {s : ByteArray} {l : List UInt8} (h : s ≠ ⟨l.toArray⟩) : (s.toList == l) = false := by
  rw [beq_eq_false_iff_ne]
  intro e
  apply h
  rw [Go.ByteArray.toList_eq] at e
  obtain ⟨a⟩ := s
  congr 1
  exact Array.ext' e
set_option maxRecDepth 100000 in
theorem named_any (g : Nat) (nm : ByteArray) (w : World) : Calls Tryd.prog 76 #[.pointer (some ⟨g, 0, none⟩), .string nm] w fun e w' => e = .returned (.pointer ((nameIdx nm).map fun i => (⟨g, i, none⟩ : Addr))) ∧ w = w' := by
  have hu72 := Tryd.underlying72
  unfold nameIdx
  by_cases h1 : nm = ⟨#[78, 49]⟩
  · subst h1
    rw [if_pos rfl]
    go_enter Tryd.func76, Tryd.ntmps76
    go_wp2
    go_ret
    exact ⟨rfl, rfl⟩
  rw [if_neg h1]
  by_cases h2 : nm = ⟨#[75]⟩
  · subst h2
    rw [if_pos rfl]
    go_enter Tryd.func76, Tryd.ntmps76
    go_wp2
    go_ret
    exact ⟨rfl, rfl⟩
  rw [if_neg h2]
  by_cases h3 : nm = ⟨#[84, 49]⟩
  · subst h3
    rw [if_pos rfl]
    go_enter Tryd.func76, Tryd.ntmps76
    go_wp2
    go_ret
    exact ⟨rfl, rfl⟩
  rw [if_neg h3]
  by_cases h4 : nm = ⟨#[78, 50]⟩
  · subst h4
    rw [if_pos rfl]
    go_enter Tryd.func76, Tryd.ntmps76
    go_wp2
    go_ret
    exact ⟨rfl, rfl⟩
  rw [if_neg h4]
  have c1 := ba_ne (l := [78, 49]) h1
  have c2 := ba_ne (l := [75]) h2
  have c3 := ba_ne (l := [84, 49]) h3
  have c4 := ba_ne (l := [78, 50]) h4
  clear h1 h2 h3 h4
  go_enter Tryd.func76, Tryd.ntmps76
  go_wp2
  go_ret
  exact ⟨rfl, rfl⟩
theorem named_at0 (g : Nat) (w : World) : Calls Tryd.prog 76 #[.pointer (some ⟨g, 0, none⟩), .string ⟨#[78, 49]⟩] w fun e w' => e = .returned (.pointer (some ⟨g, 2, none⟩)) ∧ w = w' := named_any g ⟨#[78, 49]⟩ w
theorem named_at1 (g : Nat) (w : World) : Calls Tryd.prog 76 #[.pointer (some ⟨g, 0, none⟩), .string ⟨#[75]⟩] w fun e w' => e = .returned (.pointer (some ⟨g, 3, none⟩)) ∧ w = w' := named_any g ⟨#[75]⟩ w
theorem named_at2 (g : Nat) (w : World) : Calls Tryd.prog 76 #[.pointer (some ⟨g, 0, none⟩), .string ⟨#[84, 49]⟩] w fun e w' => e = .returned (.pointer (some ⟨g, 4, none⟩)) ∧ w = w' := named_any g ⟨#[84, 49]⟩ w
theorem named_at3 (g : Nat) (w : World) : Calls Tryd.prog 76 #[.pointer (some ⟨g, 0, none⟩), .string ⟨#[78, 50]⟩] w fun e w' => e = .returned (.pointer (some ⟨g, 5, none⟩)) ∧ w = w' := named_any g ⟨#[78, 50]⟩ w
/-- The words ahead of the numbers. -/
def xw0 (wd sr : Bool) : List ByteArray := (if wd = true then [⟨#[87, 73, 68, 69]⟩] else []) ++ (if sr = true then [⟨#[83, 82, 69, 74]⟩] else [])
def xname : Nat → ByteArray
  | 0 => ⟨#[78, 49]⟩
  | 1 => ⟨#[75]⟩
  | 2 => ⟨#[84, 49]⟩
  | _ => ⟨#[78, 50]⟩
def xval (n k t m : Int) : Nat → Int
  | 0 => n
  | 1 => k
  | 2 => t
  | _ => m
def xnum (n k t m : Int) (i : Nat) : ByteArray := (xname i ++ (⟨#[61]⟩ : ByteArray)) ++ itoaB (xval n k t m i)
def xnums (n k t m : Int) (i : Nat) : List ByteArray := (List.range i).map (xnum n k t m)
theorem xnums_succ (n k t m : Int) (i : Nat) : xnums n k t m (i + 1) = xnums n k t m i ++ [xnum n k t m i] := by simp [xnums, List.range_succ]
def xwords (wd sr : Bool) (n k t m : Int) : List ByteArray := xw0 wd sr ++ xnums n k t m 4
def xtext (wd sr : Bool) (n k t m : Int) : ByteArray := joinS (xwords wd sr n k t m) ⟨#[32]⟩
def xid_Text.f (a0_0 a0_1 : Bool) (a0_2 a0_3 a0_4 a0_5 : Int) : Option ByteArray := (xid_Right.f a0_0 a0_1 a0_2 a0_3 a0_4 a0_5).bind fun ok => if ok = true then some (xtext a0_0 a0_1 a0_2 a0_3 a0_4 a0_5) else some ⟨#[]⟩
def xmost (wd sr : Bool) : Int := if wd = true then (if sr = true then 32 else 63) else (if sr = true then 4 else 7)
theorem xin_eq (a lo hi : Int) : xid_in.f a lo hi = some (decide (lo ≤ a ∧ a ≤ hi)) := by
  unfold xid_in.f
  by_cases h1 : lo ≤ a
  · rw [if_pos h1]; simp [h1]
  · rw [if_neg h1]; simp [h1]
theorem xmost_eq (wd sr : Bool) : xid_Most.f wd sr = some (xmost wd sr) := by cases wd <;> cases sr <;> rfl
def xrB (wd sr : Bool) (n k t m : Int) : Bool := decide (16 ≤ n ∧ n ≤ 256) && (decide (1 ≤ k ∧ k ≤ xmost wd sr) && (decide (4 ≤ t ∧ t ≤ 255) && decide (1 ≤ m ∧ m ≤ 15)))
theorem xright_eq (wd sr : Bool) (n k t m : Int) : xid_Right.f wd sr n k t m = some (xrB wd sr n k t m) := by
  unfold xid_Right.f xrB
  rw [xmost_eq, xin_eq, xin_eq, xin_eq]
  simp only [Option.bind_some, xin_eq]
  cases decide (16 ≤ n ∧ n ≤ 256) <;> cases decide (1 ≤ k ∧ k ≤ xmost wd sr) <;> cases decide (4 ≤ t ∧ t ≤ 255) <;> simp
theorem xmost_le (wd sr : Bool) : 4 ≤ xmost wd sr ∧ xmost wd sr ≤ 63 := by cases wd <;> cases sr <;> decide
theorem xright_bounds {wd sr : Bool} {n k t m : Int} (h : xid_Right.f wd sr n k t m = some true) : 16 ≤ n ∧ n ≤ 256 ∧ 1 ≤ k ∧ k ≤ 63 ∧ 4 ≤ t ∧ t ≤ 255 ∧ 1 ≤ m ∧ m ≤ 15 := by
  rw [xright_eq] at h
  have h := Option.some.inj h
  unfold xrB at h
  simp only [Bool.and_eq_true, decide_eq_true_eq] at h
  have := xmost_le wd sr
  omega
theorem itoa_len_all : ((List.range 1000).all fun a => decide ((Lib.itoa (a : Int)).length ≤ 3)) = true := by kernel_rfl
theorem itoa_len3 (n : Int) (h0 : 0 ≤ n) (h1 : n ≤ 999) : (Lib.itoa n).length ≤ 3 := by
  obtain ⟨a, rfl⟩ := Int.eq_ofNat_of_zero_le h0
  exact of_decide_eq_true (List.all_eq_true.1 itoa_len_all a (List.mem_range.2 (by omega)))
theorem itoaB_size (n : Int) : (itoaB n).size = (Lib.itoa n).length := List.size_toArray
theorem itoaB_len (n : Int) (h0 : 0 ≤ n) (h1 : n ≤ 999) : (itoaB n).size ≤ 3 := by rw [itoaB_size]; exact itoa_len3 n h0 h1
theorem itoaB_list (n : Int) : (itoaB n).data.toList = Lib.itoa n := rfl
theorem join_len (n k t m : Int) (wd sr : Bool) (h : xid_Right.f wd sr n k t m = some true) : (joinL (xwords wd sr n k t m) ⟨#[32]⟩).length ≤ 100 := by
  have hb := xright_bounds h
  have h1 := itoa_len3 n (by omega) (by omega)
  have h2 := itoa_len3 k (by omega) (by omega)
  have h3 := itoa_len3 t (by omega) (by omega)
  have h4 := itoa_len3 m (by omega) (by omega)
  generalize hn : Lib.itoa n = ln at h1
  generalize hk : Lib.itoa k = lk at h2
  generalize ht : Lib.itoa t = lt at h3
  generalize hm : Lib.itoa m = lm at h4
  cases wd <;> cases sr <;> simp [joinL, xwords, xw0, xnums, List.range_succ, xnum, xname, xval, Lib.join_cons, Lib.joinTail, itoaB_list, hn, hk, ht, hm] <;> omega
theorem join_f (n k t m : Int) (wd sr : Bool) (h : xid_Right.f wd sr n k t m = some true) : strings_Join.f (xwords wd sr n k t m) ⟨#[32]⟩ = some (xtext wd sr n k t m) := by
  have hj := join_len n k t m wd sr h
  have hl : 4 ≤ (xwords wd sr n k t m).length ∧ (xwords wd sr n k t m).length ≤ 6 := by cases wd <;> cases sr <;> simp [xwords, xw0, xnums]
  unfold strings_Join.f
  rw [if_pos ⟨by omega, by omega, by omega⟩]
  rfl
theorem six_cell {w : World} {g : Nat} {a0 a1 a2 a3 a4 a5 : Value} {t : TypeId} (h : w.heap[g]? = some (.cells #[a0, a1, a2, a3, a4, a5] t (0, 0))) :
    (w.cell? ⟨g, 0, none⟩ = some a0 ∧ w.cell? ⟨g, 1, none⟩ = some a1 ∧ w.cell? ⟨g, 2, none⟩ = some a2 ∧ w.cell? ⟨g, 3, none⟩ = some a3 ∧ w.cell? ⟨g, 4, none⟩ = some a4 ∧ w.cell? ⟨g, 5, none⟩ = some a5) ∧
    (w.frozen? ⟨g, 0, none⟩ = false ∧ w.frozen? ⟨g, 1, none⟩ = false ∧ w.frozen? ⟨g, 2, none⟩ = false ∧ w.frozen? ⟨g, 3, none⟩ = false ∧ w.frozen? ⟨g, 4, none⟩ = false ∧ w.frozen? ⟨g, 5, none⟩ = false) := by
  simp [World.cell?, World.frozen?, h]
theorem four_cell {w : World} {g : Nat} {a0 a1 a2 a3 : Value} {t : TypeId} (h : w.heap[g]? = some (.cells #[a0, a1, a2, a3] t (0, 0))) :
    w.cell? ⟨g, 0, none⟩ = some a0 ∧ w.cell? ⟨g, 1, none⟩ = some a1 ∧ w.cell? ⟨g, 2, none⟩ = some a2 ∧ w.cell? ⟨g, 3, none⟩ = some a3 := by
  simp [World.cell?, h]
theorem lt_of_blk9 {W : World} {g : Nat} {o : Obj} (h : W.heap[g]? = some o) : g < W.heap.size := (Array.getElem?_eq_some_iff.1 h).1
/-- A row of strings of the call's own is not a block of another type. -/
theorem strs_ne {W : World} {base g : Nat} {ok : Nat → Prop} {v : Value} {xs : List ByteArray} {cs : Array Value} {ty : TypeId} {f : Nat × Nat} (h : Kd.R Kd.string 9 W base ok v xs) (hg : W.heap[g]? = some (.cells cs ty f)) (ht : ty ≠ 9) : some g ≠ v.ownBlock := by
  intro e
  obtain ⟨_, _, _, q, hq, cs', hc⟩ := (Kd.R_bound h).1 g e.symm
  have hq' : q = 9 := by simpa [Kd.string, Kd.scalar] using hq
  subst hq'
  rw [hg] at hc
  simp only [Option.some.injEq, Obj.cells.injEq] at hc
  exact ht hc.2.1
/-- The words so far, the parameters' block, and that nothing older has turned. -/
def TX (w : World) (wd sr : Bool) (n k t m : Int) (W : World) (v : Value) (xs : List ByteArray) : Prop :=
  Kd.R Kd.string 9 W w.heap.size (fun _ => True) v xs ∧ W.heap[w.heap.size]? = some (.cells #[.bool wd, .bool sr, .int .i64 n, .int .i64 k, .int .i64 t, .int .i64 m] 72 (0, 0)) ∧ Below w.heap.size w W
theorem TX_append {w : World} {wd sr : Bool} {n k t m : Int} {W w1 : World} {v v1 : Value} {xs ys : List ByteArray} (h : TX w wd sr n k t m W v xs) (hr : Kd.R Kd.string 9 w1 w.heap.size (fun _ => True) v1 ys) (hb : Below w.heap.size w w1) (hg : W.grownBy w1 v.ownBlock) : TX w wd sr n k t m w1 v1 ys :=
  ⟨hr, (hg.block _ (lt_of_blk9 h.2.1) (strs_ne h.1 h.2.1 (by decide))).trans h.2.1, hb⟩
/-- The same beside the names' block nb. -/
def TY (w : World) (nb : Nat) (wd sr : Bool) (n k t m : Int) (W : World) (v : Value) (xs : List ByteArray) : Prop :=
  Kd.R Kd.string 9 W w.heap.size (fun j => j ≠ nb) v xs ∧ W.heap[w.heap.size]? = some (.cells #[.bool wd, .bool sr, .int .i64 n, .int .i64 k, .int .i64 t, .int .i64 m] 72 (0, 0)) ∧ W.heap[nb]? = some (.cells #[.string ⟨#[78, 49]⟩, .string ⟨#[75]⟩, .string ⟨#[84, 49]⟩, .string ⟨#[78, 50]⟩] 9 (0, 0)) ∧ Below w.heap.size w W
theorem TY_of {w : World} {wd sr : Bool} {n k t m : Int} {W : World} {v : Value} {xs : List ByteArray} (h : TX w wd sr n k t m W v xs) : TY w W.heap.size wd sr n k t m (W.alloc (.cells #[.string ⟨#[78, 49]⟩, .string ⟨#[75]⟩, .string ⟨#[84, 49]⟩, .string ⟨#[78, 50]⟩] 9)) v xs :=
  ⟨Kd.R_alloc (Kd.R_mono (Kd.R_bound h.1) (fun j hj => by have := hj.2.2.1; omega)) _, (Below.heap_alloc W _ _ (lt_of_blk9 h.2.1)).trans h.2.1, heap_alloc_new W _, h.2.2.alloc h.2.2.size _⟩
theorem TY_append {w : World} {nb : Nat} {wd sr : Bool} {n k t m : Int} {W w1 : World} {v v1 : Value} {xs ys : List ByteArray} (h : TY w nb wd sr n k t m W v xs) (hr : Kd.R Kd.string 9 w1 w.heap.size (fun j => j ≠ nb) v1 ys) (hb : Below w.heap.size w w1) (hg : W.grownBy w1 v.ownBlock) : TY w nb wd sr n k t m w1 v1 ys :=
  ⟨hr, (hg.block _ (lt_of_blk9 h.2.1) (strs_ne h.1 h.2.1 (by decide))).trans h.2.1, (hg.block _ (lt_of_blk9 h.2.2.1) (fun e => h.1.1 nb e.symm rfl)).trans h.2.2.1, hb⟩
theorem TY_below {w : World} {nb : Nat} {wd sr : Bool} {n k t m : Int} {W W' : World} {v : Value} {xs : List ByteArray} (h : TY w nb wd sr n k t m W v xs) (hb : Below W.heap.size W W') : TY w nb wd sr n k t m W' v xs :=
  ⟨Kd.R_below h.1 hb, (hb.block _ (lt_of_blk9 h.2.1)).trans h.2.1, (hb.block _ (lt_of_blk9 h.2.2.1)).trans h.2.2.1, below_then h.2.2.2 h.2.2.2.size hb⟩
set_option maxHeartbeats 8000000 in
set_option maxRecDepth 100000 in
theorem xid_Text.calls (a0_0 a0_1 : Bool) (a0_2 a0_3 a0_4 a0_5 : Int) (r : ByteArray) (w : World) (hE_ : EnvW w) (h : xid_Text.f a0_0 a0_1 a0_2 a0_3 a0_4 a0_5 = some r) :
    Calls Tryd.prog 47 #[.agg #[.bool a0_0, .bool a0_1, .int .i64 a0_2, .int .i64 a0_3, .int .i64 a0_4, .int .i64 a0_5]] w fun e w' => e = .returned (.string r) ∧ Below w.heap.size w w' := by
  unfold xid_Text.f at h
  obtain ⟨ok, hok, h⟩ := Option.bind_eq_some_iff.1 h
  have hu72 := Tryd.underlying72
  have hu121 := Tryd.underlying121
  have HE := Aside0.mk hE_
  clear hE_
  cases ok with
  | false =>
    rw [if_neg (by simp)] at h
    obtain rfl := Option.some.inj h
    have HOK := Aside0.mk hok
    clear h hok
    go_enter Tryd.func47, Tryd.ntmps47
    go_wp2_with (fail)
    refine (xid_Right.calls a0_0 a0_1 a0_2 a0_3 a0_4 a0_5 false _ HOK.out).mono ?_
    rintro e w2 ⟨rfl, hb⟩
    have HB := Aside0.mk (below_then ((Below.refl w.heap.size w).alloc (Nat.le_refl _) _) (by simp) hb)
    clear hb
    go_wp2_with (fail)
    go_ret
    exact ⟨rfl, HB.out⟩
  | true =>
    rw [if_pos rfl] at h
    obtain rfl := Option.some.inj h
    have HBD := Aside0.mk (xright_bounds hok)
    have HJ := Aside0.mk (join_len _ _ _ _ _ _ hok)
    have HJF := Aside0.mk (join_f _ _ _ _ _ _ hok)
    have HOK := Aside0.mk hok
    clear h hok HJ
    go_enter Tryd.func47, Tryd.ntmps47
    go_wp2_with (fail)
    refine (xid_Right.calls a0_0 a0_1 a0_2 a0_3 a0_4 a0_5 true _ HOK.out).mono ?_
    rintro e w2 ⟨rfl, hb⟩
    have HT := Aside0.mk (show TX w a0_0 a0_1 a0_2 a0_3 a0_4 a0_5 w2 (.slice none 0 0) [] from ⟨Kd.R_nil _ _ _ _ _, (hb.block _ (by simp)).trans (heap_alloc_new w _), below_then ((Below.refl w.heap.size w).alloc (Nat.le_refl _) _) (by simp) hb⟩)
    clear hb HOK
    cases a0_0 <;> cases a0_1
    all_goals
      obtain ⟨⟨q0, q1, q2, q3, q4, q5⟩, _⟩ := six_cell HT.out.2.1
      go_wp2_with (first | (at_builtin; refine Kd.R_append Kd.string (w0 := w) w.heap.size rfl (.tmp 11) (.tmp 12) 121 9 (.string ⟨#[]⟩) 16 rfl Tryd.underlying121 info9 rfl (by decide) (by omega) _ [] (⟨#[87, 73, 68, 69]⟩ : ByteArray) [.string (⟨#[87, 73, 68, 69]⟩ : ByteArray)] (fun _ => True) (fun _ => False) rfl rfl rfl (fun _ hk => hk.elim) (fun _ _ => trivial) HT.out.1 HT.out.2.2 HT.out.2.2.size (by simp) ?_; intro v1 w5 ho hb hg hat; have HT1 := Aside0.mk (TX_append HT.out ho hb hg); clear HT ho hb hg hat q0 q1 q2 q3 q4 q5; have HT := HT1; clear HT1; obtain ⟨⟨q0, q1, q2, q3, q4, q5⟩, _⟩ := six_cell HT.out.2.1) | (at_builtin; refine Kd.R_append Kd.string (w0 := w) w.heap.size rfl (.tmp 16) (.tmp 17) 121 9 (.string ⟨#[]⟩) 16 rfl Tryd.underlying121 info9 rfl (by decide) (by omega) _ _ (⟨#[83, 82, 69, 74]⟩ : ByteArray) [.string (⟨#[83, 82, 69, 74]⟩ : ByteArray)] (fun _ => True) (fun _ => False) rfl rfl rfl (fun _ hk => hk.elim) (fun _ _ => trivial) HT.out.1 HT.out.2.2 HT.out.2.2.size (by simp) ?_; intro v2 w6 ho hb hg hat; have HT1 := Aside0.mk (TX_append HT.out ho hb hg); clear HT ho hb hg hat q0 q1 q2 q3 q4 q5; have HT := HT1; clear HT1; obtain ⟨⟨q0, q1, q2, q3, q4, q5⟩, _⟩ := six_cell HT.out.2.1))
      have HT3 := Aside0.mk (TY_of HT.out)
      generalize hW : World.alloc _ _ = wN at HT3 ⊢
      clear hW HT q0 q1 q2 q3 q4 q5
    · go_loopw [3, 5, 21] (fun v3 v5 v21 wr => ∃ i : Nat, i ≤ 4 ∧ v21 = .int .i64 (i : Int) ∧ Aside0 (TY w w2.heap.size false false a0_2 a0_3 a0_4 a0_5 wr v3 (xw0 false false ++ xnums a0_2 a0_3 a0_4 a0_5 i))) (fun v3 v5 v21 _ => 4 - (intOf v21).toNat)
      case atStart =>
        exact ⟨0, by omega, rfl, HT3⟩
      case round =>
        clear HT3
        obtain ⟨i, hi, rfl, HTY⟩ := hrel
        by_cases hlt : i < 4
        · obtain ⟨⟨q0, q1, q2, q3, q4, q5⟩, _⟩ := six_cell HTY.out.2.1
          obtain ⟨y0, y1, y2, y3⟩ := four_cell HTY.out.2.2.1
          have hb16 : (Aside0 (EnvW wr)) := ⟨HE.out.below HTY.out.2.2.2⟩
          have hi4 : i = 0 ∨ i = 1 ∨ i = 2 ∨ i = 3 := by omega
          clear hi hlt
          rcases hi4 with rfl | rfl | rfl | rfl
          · have hsz := itoaB_len a0_2 (by have := HBD.out; omega) (by have := HBD.out; omega)
            have HL := Aside0.mk (show (xw0 false false ++ xnums a0_2 a0_3 a0_4 a0_5 0).length ≤ 8 by simp [xw0, xnums])
            go_wp2_with (first | (go_at_call 76; refine (named_at0 w.heap.size _).mono ?_; rintro e w' ⟨rfl, rfl⟩) | (go_at_call 69; refine (itoa_any a0_2 (by have := HBD.out; omega) (by have := HBD.out; omega) _ hb16.out).mono ?_; rintro e w' ⟨rfl, hb⟩; have HT1 := Aside0.mk (TY_below HTY.out hb); clear HTY hb q0 q1 q2 q3 q4 q5 y0 y1 y2 y3; have HTY := HT1; clear HT1) | (at_builtin; refine Kd.R_append Kd.string (w0 := w) w.heap.size rfl (.tmp 25) (.tmp 34) 121 9 (.string ⟨#[]⟩) 16 rfl Tryd.underlying121 info9 rfl (by decide) (by omega) _ (xw0 false false ++ xnums a0_2 a0_3 a0_4 a0_5 0) (xnum a0_2 a0_3 a0_4 a0_5 0) [.string (xnum a0_2 a0_3 a0_4 a0_5 0)] (fun j => j ≠ w2.heap.size) (fun _ => False) rfl rfl rfl (fun _ hk => hk.elim) (fun j hj => by have := lt_of_blk9 HTY.out.2.2.1; omega) HTY.out.1 HTY.out.2.2.2 HTY.out.2.2.2.size (by have := HL.out; omega) ?_; intro v1' w5' ho hb' hg hat; have HT1 := Aside0.mk (TY_append HTY.out ho hb' hg); clear HTY ho hb' hg hat; have HTY := HT1; clear HT1))
            exact ⟨⟨1, by omega, rfl, ⟨by rw [xnums_succ, ← List.append_assoc]; exact HTY.out⟩⟩, by simp [intOf]⟩
          · have hsz := itoaB_len a0_3 (by have := HBD.out; omega) (by have := HBD.out; omega)
            have HL := Aside0.mk (show (xw0 false false ++ xnums a0_2 a0_3 a0_4 a0_5 1).length ≤ 8 by simp [xw0, xnums])
            go_wp2_with (first | (go_at_call 76; refine (named_at1 w.heap.size _).mono ?_; rintro e w' ⟨rfl, rfl⟩) | (go_at_call 69; refine (itoa_any a0_3 (by have := HBD.out; omega) (by have := HBD.out; omega) _ hb16.out).mono ?_; rintro e w' ⟨rfl, hb⟩; have HT1 := Aside0.mk (TY_below HTY.out hb); clear HTY hb q0 q1 q2 q3 q4 q5 y0 y1 y2 y3; have HTY := HT1; clear HT1) | (at_builtin; refine Kd.R_append Kd.string (w0 := w) w.heap.size rfl (.tmp 25) (.tmp 34) 121 9 (.string ⟨#[]⟩) 16 rfl Tryd.underlying121 info9 rfl (by decide) (by omega) _ (xw0 false false ++ xnums a0_2 a0_3 a0_4 a0_5 1) (xnum a0_2 a0_3 a0_4 a0_5 1) [.string (xnum a0_2 a0_3 a0_4 a0_5 1)] (fun j => j ≠ w2.heap.size) (fun _ => False) rfl rfl rfl (fun _ hk => hk.elim) (fun j hj => by have := lt_of_blk9 HTY.out.2.2.1; omega) HTY.out.1 HTY.out.2.2.2 HTY.out.2.2.2.size (by have := HL.out; omega) ?_; intro v1' w5' ho hb' hg hat; have HT1 := Aside0.mk (TY_append HTY.out ho hb' hg); clear HTY ho hb' hg hat; have HTY := HT1; clear HT1))
            exact ⟨⟨2, by omega, rfl, ⟨by rw [xnums_succ, ← List.append_assoc]; exact HTY.out⟩⟩, by simp [intOf]⟩
          · have hsz := itoaB_len a0_4 (by have := HBD.out; omega) (by have := HBD.out; omega)
            have HL := Aside0.mk (show (xw0 false false ++ xnums a0_2 a0_3 a0_4 a0_5 2).length ≤ 8 by simp [xw0, xnums])
            go_wp2_with (first | (go_at_call 76; refine (named_at2 w.heap.size _).mono ?_; rintro e w' ⟨rfl, rfl⟩) | (go_at_call 69; refine (itoa_any a0_4 (by have := HBD.out; omega) (by have := HBD.out; omega) _ hb16.out).mono ?_; rintro e w' ⟨rfl, hb⟩; have HT1 := Aside0.mk (TY_below HTY.out hb); clear HTY hb q0 q1 q2 q3 q4 q5 y0 y1 y2 y3; have HTY := HT1; clear HT1) | (at_builtin; refine Kd.R_append Kd.string (w0 := w) w.heap.size rfl (.tmp 25) (.tmp 34) 121 9 (.string ⟨#[]⟩) 16 rfl Tryd.underlying121 info9 rfl (by decide) (by omega) _ (xw0 false false ++ xnums a0_2 a0_3 a0_4 a0_5 2) (xnum a0_2 a0_3 a0_4 a0_5 2) [.string (xnum a0_2 a0_3 a0_4 a0_5 2)] (fun j => j ≠ w2.heap.size) (fun _ => False) rfl rfl rfl (fun _ hk => hk.elim) (fun j hj => by have := lt_of_blk9 HTY.out.2.2.1; omega) HTY.out.1 HTY.out.2.2.2 HTY.out.2.2.2.size (by have := HL.out; omega) ?_; intro v1' w5' ho hb' hg hat; have HT1 := Aside0.mk (TY_append HTY.out ho hb' hg); clear HTY ho hb' hg hat; have HTY := HT1; clear HT1))
            exact ⟨⟨3, by omega, rfl, ⟨by rw [xnums_succ, ← List.append_assoc]; exact HTY.out⟩⟩, by simp [intOf]⟩
          · have hsz := itoaB_len a0_5 (by have := HBD.out; omega) (by have := HBD.out; omega)
            have HL := Aside0.mk (show (xw0 false false ++ xnums a0_2 a0_3 a0_4 a0_5 3).length ≤ 8 by simp [xw0, xnums])
            go_wp2_with (first | (go_at_call 76; refine (named_at3 w.heap.size _).mono ?_; rintro e w' ⟨rfl, rfl⟩) | (go_at_call 69; refine (itoa_any a0_5 (by have := HBD.out; omega) (by have := HBD.out; omega) _ hb16.out).mono ?_; rintro e w' ⟨rfl, hb⟩; have HT1 := Aside0.mk (TY_below HTY.out hb); clear HTY hb q0 q1 q2 q3 q4 q5 y0 y1 y2 y3; have HTY := HT1; clear HT1) | (at_builtin; refine Kd.R_append Kd.string (w0 := w) w.heap.size rfl (.tmp 25) (.tmp 34) 121 9 (.string ⟨#[]⟩) 16 rfl Tryd.underlying121 info9 rfl (by decide) (by omega) _ (xw0 false false ++ xnums a0_2 a0_3 a0_4 a0_5 3) (xnum a0_2 a0_3 a0_4 a0_5 3) [.string (xnum a0_2 a0_3 a0_4 a0_5 3)] (fun j => j ≠ w2.heap.size) (fun _ => False) rfl rfl rfl (fun _ hk => hk.elim) (fun j hj => by have := lt_of_blk9 HTY.out.2.2.1; omega) HTY.out.1 HTY.out.2.2.2 HTY.out.2.2.2.size (by have := HL.out; omega) ?_; intro v1' w5' ho hb' hg hat; have HT1 := Aside0.mk (TY_append HTY.out ho hb' hg); clear HTY ho hb' hg hat; have HTY := HT1; clear HT1))
            exact ⟨⟨4, by omega, rfl, ⟨by rw [xnums_succ, ← List.append_assoc]; exact HTY.out⟩⟩, by simp [intOf]⟩
        · obtain rfl : i = 4 := by omega
          obtain ⟨A, c, rfl, hle⟩ := Kd.R_reads HTY.out.1
          have HLE := Aside0.mk hle
          have HB := Aside0.mk HTY.out.2.2.2
          clear hle hlt hi
          go_wp2_with (fail)
          refine (strings_Join.calls A c (xwords false false a0_2 a0_3 a0_4 a0_5) ⟨#[32]⟩ _ _ HLE.out.2 HLE.out.1 HJF.out).mono ?_
          rintro e w' ⟨rfl, hb⟩
          go_wp2_with (fail)
          go_ret
          exact ⟨rfl, below_then HB.out HB.out.size hb⟩
    · go_loopw [3, 5, 21] (fun v3 v5 v21 wr => ∃ i : Nat, i ≤ 4 ∧ v21 = .int .i64 (i : Int) ∧ Aside0 (TY w w6.heap.size false true a0_2 a0_3 a0_4 a0_5 wr v3 (xw0 false true ++ xnums a0_2 a0_3 a0_4 a0_5 i))) (fun v3 v5 v21 _ => 4 - (intOf v21).toNat)
      case atStart =>
        exact ⟨0, by omega, rfl, HT3⟩
      case round =>
        clear HT3
        obtain ⟨i, hi, rfl, HTY⟩ := hrel
        by_cases hlt : i < 4
        · obtain ⟨⟨q0, q1, q2, q3, q4, q5⟩, _⟩ := six_cell HTY.out.2.1
          obtain ⟨y0, y1, y2, y3⟩ := four_cell HTY.out.2.2.1
          have hb16 : (Aside0 (EnvW wr)) := ⟨HE.out.below HTY.out.2.2.2⟩
          have hi4 : i = 0 ∨ i = 1 ∨ i = 2 ∨ i = 3 := by omega
          clear hi hlt
          rcases hi4 with rfl | rfl | rfl | rfl
          · have hsz := itoaB_len a0_2 (by have := HBD.out; omega) (by have := HBD.out; omega)
            have HL := Aside0.mk (show (xw0 false true ++ xnums a0_2 a0_3 a0_4 a0_5 0).length ≤ 8 by simp [xw0, xnums])
            go_wp2_with (first | (go_at_call 76; refine (named_at0 w.heap.size _).mono ?_; rintro e w' ⟨rfl, rfl⟩) | (go_at_call 69; refine (itoa_any a0_2 (by have := HBD.out; omega) (by have := HBD.out; omega) _ hb16.out).mono ?_; rintro e w' ⟨rfl, hb⟩; have HT1 := Aside0.mk (TY_below HTY.out hb); clear HTY hb q0 q1 q2 q3 q4 q5 y0 y1 y2 y3; have HTY := HT1; clear HT1) | (at_builtin; refine Kd.R_append Kd.string (w0 := w) w.heap.size rfl (.tmp 25) (.tmp 34) 121 9 (.string ⟨#[]⟩) 16 rfl Tryd.underlying121 info9 rfl (by decide) (by omega) _ (xw0 false true ++ xnums a0_2 a0_3 a0_4 a0_5 0) (xnum a0_2 a0_3 a0_4 a0_5 0) [.string (xnum a0_2 a0_3 a0_4 a0_5 0)] (fun j => j ≠ w6.heap.size) (fun _ => False) rfl rfl rfl (fun _ hk => hk.elim) (fun j hj => by have := lt_of_blk9 HTY.out.2.2.1; omega) HTY.out.1 HTY.out.2.2.2 HTY.out.2.2.2.size (by have := HL.out; omega) ?_; intro v1' w5' ho hb' hg hat; have HT1 := Aside0.mk (TY_append HTY.out ho hb' hg); clear HTY ho hb' hg hat; have HTY := HT1; clear HT1))
            exact ⟨⟨1, by omega, rfl, ⟨by rw [xnums_succ, ← List.append_assoc]; exact HTY.out⟩⟩, by simp [intOf]⟩
          · have hsz := itoaB_len a0_3 (by have := HBD.out; omega) (by have := HBD.out; omega)
            have HL := Aside0.mk (show (xw0 false true ++ xnums a0_2 a0_3 a0_4 a0_5 1).length ≤ 8 by simp [xw0, xnums])
            go_wp2_with (first | (go_at_call 76; refine (named_at1 w.heap.size _).mono ?_; rintro e w' ⟨rfl, rfl⟩) | (go_at_call 69; refine (itoa_any a0_3 (by have := HBD.out; omega) (by have := HBD.out; omega) _ hb16.out).mono ?_; rintro e w' ⟨rfl, hb⟩; have HT1 := Aside0.mk (TY_below HTY.out hb); clear HTY hb q0 q1 q2 q3 q4 q5 y0 y1 y2 y3; have HTY := HT1; clear HT1) | (at_builtin; refine Kd.R_append Kd.string (w0 := w) w.heap.size rfl (.tmp 25) (.tmp 34) 121 9 (.string ⟨#[]⟩) 16 rfl Tryd.underlying121 info9 rfl (by decide) (by omega) _ (xw0 false true ++ xnums a0_2 a0_3 a0_4 a0_5 1) (xnum a0_2 a0_3 a0_4 a0_5 1) [.string (xnum a0_2 a0_3 a0_4 a0_5 1)] (fun j => j ≠ w6.heap.size) (fun _ => False) rfl rfl rfl (fun _ hk => hk.elim) (fun j hj => by have := lt_of_blk9 HTY.out.2.2.1; omega) HTY.out.1 HTY.out.2.2.2 HTY.out.2.2.2.size (by have := HL.out; omega) ?_; intro v1' w5' ho hb' hg hat; have HT1 := Aside0.mk (TY_append HTY.out ho hb' hg); clear HTY ho hb' hg hat; have HTY := HT1; clear HT1))
            exact ⟨⟨2, by omega, rfl, ⟨by rw [xnums_succ, ← List.append_assoc]; exact HTY.out⟩⟩, by simp [intOf]⟩
          · have hsz := itoaB_len a0_4 (by have := HBD.out; omega) (by have := HBD.out; omega)
            have HL := Aside0.mk (show (xw0 false true ++ xnums a0_2 a0_3 a0_4 a0_5 2).length ≤ 8 by simp [xw0, xnums])
            go_wp2_with (first | (go_at_call 76; refine (named_at2 w.heap.size _).mono ?_; rintro e w' ⟨rfl, rfl⟩) | (go_at_call 69; refine (itoa_any a0_4 (by have := HBD.out; omega) (by have := HBD.out; omega) _ hb16.out).mono ?_; rintro e w' ⟨rfl, hb⟩; have HT1 := Aside0.mk (TY_below HTY.out hb); clear HTY hb q0 q1 q2 q3 q4 q5 y0 y1 y2 y3; have HTY := HT1; clear HT1) | (at_builtin; refine Kd.R_append Kd.string (w0 := w) w.heap.size rfl (.tmp 25) (.tmp 34) 121 9 (.string ⟨#[]⟩) 16 rfl Tryd.underlying121 info9 rfl (by decide) (by omega) _ (xw0 false true ++ xnums a0_2 a0_3 a0_4 a0_5 2) (xnum a0_2 a0_3 a0_4 a0_5 2) [.string (xnum a0_2 a0_3 a0_4 a0_5 2)] (fun j => j ≠ w6.heap.size) (fun _ => False) rfl rfl rfl (fun _ hk => hk.elim) (fun j hj => by have := lt_of_blk9 HTY.out.2.2.1; omega) HTY.out.1 HTY.out.2.2.2 HTY.out.2.2.2.size (by have := HL.out; omega) ?_; intro v1' w5' ho hb' hg hat; have HT1 := Aside0.mk (TY_append HTY.out ho hb' hg); clear HTY ho hb' hg hat; have HTY := HT1; clear HT1))
            exact ⟨⟨3, by omega, rfl, ⟨by rw [xnums_succ, ← List.append_assoc]; exact HTY.out⟩⟩, by simp [intOf]⟩
          · have hsz := itoaB_len a0_5 (by have := HBD.out; omega) (by have := HBD.out; omega)
            have HL := Aside0.mk (show (xw0 false true ++ xnums a0_2 a0_3 a0_4 a0_5 3).length ≤ 8 by simp [xw0, xnums])
            go_wp2_with (first | (go_at_call 76; refine (named_at3 w.heap.size _).mono ?_; rintro e w' ⟨rfl, rfl⟩) | (go_at_call 69; refine (itoa_any a0_5 (by have := HBD.out; omega) (by have := HBD.out; omega) _ hb16.out).mono ?_; rintro e w' ⟨rfl, hb⟩; have HT1 := Aside0.mk (TY_below HTY.out hb); clear HTY hb q0 q1 q2 q3 q4 q5 y0 y1 y2 y3; have HTY := HT1; clear HT1) | (at_builtin; refine Kd.R_append Kd.string (w0 := w) w.heap.size rfl (.tmp 25) (.tmp 34) 121 9 (.string ⟨#[]⟩) 16 rfl Tryd.underlying121 info9 rfl (by decide) (by omega) _ (xw0 false true ++ xnums a0_2 a0_3 a0_4 a0_5 3) (xnum a0_2 a0_3 a0_4 a0_5 3) [.string (xnum a0_2 a0_3 a0_4 a0_5 3)] (fun j => j ≠ w6.heap.size) (fun _ => False) rfl rfl rfl (fun _ hk => hk.elim) (fun j hj => by have := lt_of_blk9 HTY.out.2.2.1; omega) HTY.out.1 HTY.out.2.2.2 HTY.out.2.2.2.size (by have := HL.out; omega) ?_; intro v1' w5' ho hb' hg hat; have HT1 := Aside0.mk (TY_append HTY.out ho hb' hg); clear HTY ho hb' hg hat; have HTY := HT1; clear HT1))
            exact ⟨⟨4, by omega, rfl, ⟨by rw [xnums_succ, ← List.append_assoc]; exact HTY.out⟩⟩, by simp [intOf]⟩
        · obtain rfl : i = 4 := by omega
          obtain ⟨A, c, rfl, hle⟩ := Kd.R_reads HTY.out.1
          have HLE := Aside0.mk hle
          have HB := Aside0.mk HTY.out.2.2.2
          clear hle hlt hi
          go_wp2_with (fail)
          refine (strings_Join.calls A c (xwords false true a0_2 a0_3 a0_4 a0_5) ⟨#[32]⟩ _ _ HLE.out.2 HLE.out.1 HJF.out).mono ?_
          rintro e w' ⟨rfl, hb⟩
          go_wp2_with (fail)
          go_ret
          exact ⟨rfl, below_then HB.out HB.out.size hb⟩
    · go_loopw [3, 5, 21] (fun v3 v5 v21 wr => ∃ i : Nat, i ≤ 4 ∧ v21 = .int .i64 (i : Int) ∧ Aside0 (TY w w5.heap.size true false a0_2 a0_3 a0_4 a0_5 wr v3 (xw0 true false ++ xnums a0_2 a0_3 a0_4 a0_5 i))) (fun v3 v5 v21 _ => 4 - (intOf v21).toNat)
      case atStart =>
        exact ⟨0, by omega, rfl, HT3⟩
      case round =>
        clear HT3
        obtain ⟨i, hi, rfl, HTY⟩ := hrel
        by_cases hlt : i < 4
        · obtain ⟨⟨q0, q1, q2, q3, q4, q5⟩, _⟩ := six_cell HTY.out.2.1
          obtain ⟨y0, y1, y2, y3⟩ := four_cell HTY.out.2.2.1
          have hb16 : (Aside0 (EnvW wr)) := ⟨HE.out.below HTY.out.2.2.2⟩
          have hi4 : i = 0 ∨ i = 1 ∨ i = 2 ∨ i = 3 := by omega
          clear hi hlt
          rcases hi4 with rfl | rfl | rfl | rfl
          · have hsz := itoaB_len a0_2 (by have := HBD.out; omega) (by have := HBD.out; omega)
            have HL := Aside0.mk (show (xw0 true false ++ xnums a0_2 a0_3 a0_4 a0_5 0).length ≤ 8 by simp [xw0, xnums])
            go_wp2_with (first | (go_at_call 76; refine (named_at0 w.heap.size _).mono ?_; rintro e w' ⟨rfl, rfl⟩) | (go_at_call 69; refine (itoa_any a0_2 (by have := HBD.out; omega) (by have := HBD.out; omega) _ hb16.out).mono ?_; rintro e w' ⟨rfl, hb⟩; have HT1 := Aside0.mk (TY_below HTY.out hb); clear HTY hb q0 q1 q2 q3 q4 q5 y0 y1 y2 y3; have HTY := HT1; clear HT1) | (at_builtin; refine Kd.R_append Kd.string (w0 := w) w.heap.size rfl (.tmp 25) (.tmp 34) 121 9 (.string ⟨#[]⟩) 16 rfl Tryd.underlying121 info9 rfl (by decide) (by omega) _ (xw0 true false ++ xnums a0_2 a0_3 a0_4 a0_5 0) (xnum a0_2 a0_3 a0_4 a0_5 0) [.string (xnum a0_2 a0_3 a0_4 a0_5 0)] (fun j => j ≠ w5.heap.size) (fun _ => False) rfl rfl rfl (fun _ hk => hk.elim) (fun j hj => by have := lt_of_blk9 HTY.out.2.2.1; omega) HTY.out.1 HTY.out.2.2.2 HTY.out.2.2.2.size (by have := HL.out; omega) ?_; intro v1' w5' ho hb' hg hat; have HT1 := Aside0.mk (TY_append HTY.out ho hb' hg); clear HTY ho hb' hg hat; have HTY := HT1; clear HT1))
            exact ⟨⟨1, by omega, rfl, ⟨by rw [xnums_succ, ← List.append_assoc]; exact HTY.out⟩⟩, by simp [intOf]⟩
          · have hsz := itoaB_len a0_3 (by have := HBD.out; omega) (by have := HBD.out; omega)
            have HL := Aside0.mk (show (xw0 true false ++ xnums a0_2 a0_3 a0_4 a0_5 1).length ≤ 8 by simp [xw0, xnums])
            go_wp2_with (first | (go_at_call 76; refine (named_at1 w.heap.size _).mono ?_; rintro e w' ⟨rfl, rfl⟩) | (go_at_call 69; refine (itoa_any a0_3 (by have := HBD.out; omega) (by have := HBD.out; omega) _ hb16.out).mono ?_; rintro e w' ⟨rfl, hb⟩; have HT1 := Aside0.mk (TY_below HTY.out hb); clear HTY hb q0 q1 q2 q3 q4 q5 y0 y1 y2 y3; have HTY := HT1; clear HT1) | (at_builtin; refine Kd.R_append Kd.string (w0 := w) w.heap.size rfl (.tmp 25) (.tmp 34) 121 9 (.string ⟨#[]⟩) 16 rfl Tryd.underlying121 info9 rfl (by decide) (by omega) _ (xw0 true false ++ xnums a0_2 a0_3 a0_4 a0_5 1) (xnum a0_2 a0_3 a0_4 a0_5 1) [.string (xnum a0_2 a0_3 a0_4 a0_5 1)] (fun j => j ≠ w5.heap.size) (fun _ => False) rfl rfl rfl (fun _ hk => hk.elim) (fun j hj => by have := lt_of_blk9 HTY.out.2.2.1; omega) HTY.out.1 HTY.out.2.2.2 HTY.out.2.2.2.size (by have := HL.out; omega) ?_; intro v1' w5' ho hb' hg hat; have HT1 := Aside0.mk (TY_append HTY.out ho hb' hg); clear HTY ho hb' hg hat; have HTY := HT1; clear HT1))
            exact ⟨⟨2, by omega, rfl, ⟨by rw [xnums_succ, ← List.append_assoc]; exact HTY.out⟩⟩, by simp [intOf]⟩
          · have hsz := itoaB_len a0_4 (by have := HBD.out; omega) (by have := HBD.out; omega)
            have HL := Aside0.mk (show (xw0 true false ++ xnums a0_2 a0_3 a0_4 a0_5 2).length ≤ 8 by simp [xw0, xnums])
            go_wp2_with (first | (go_at_call 76; refine (named_at2 w.heap.size _).mono ?_; rintro e w' ⟨rfl, rfl⟩) | (go_at_call 69; refine (itoa_any a0_4 (by have := HBD.out; omega) (by have := HBD.out; omega) _ hb16.out).mono ?_; rintro e w' ⟨rfl, hb⟩; have HT1 := Aside0.mk (TY_below HTY.out hb); clear HTY hb q0 q1 q2 q3 q4 q5 y0 y1 y2 y3; have HTY := HT1; clear HT1) | (at_builtin; refine Kd.R_append Kd.string (w0 := w) w.heap.size rfl (.tmp 25) (.tmp 34) 121 9 (.string ⟨#[]⟩) 16 rfl Tryd.underlying121 info9 rfl (by decide) (by omega) _ (xw0 true false ++ xnums a0_2 a0_3 a0_4 a0_5 2) (xnum a0_2 a0_3 a0_4 a0_5 2) [.string (xnum a0_2 a0_3 a0_4 a0_5 2)] (fun j => j ≠ w5.heap.size) (fun _ => False) rfl rfl rfl (fun _ hk => hk.elim) (fun j hj => by have := lt_of_blk9 HTY.out.2.2.1; omega) HTY.out.1 HTY.out.2.2.2 HTY.out.2.2.2.size (by have := HL.out; omega) ?_; intro v1' w5' ho hb' hg hat; have HT1 := Aside0.mk (TY_append HTY.out ho hb' hg); clear HTY ho hb' hg hat; have HTY := HT1; clear HT1))
            exact ⟨⟨3, by omega, rfl, ⟨by rw [xnums_succ, ← List.append_assoc]; exact HTY.out⟩⟩, by simp [intOf]⟩
          · have hsz := itoaB_len a0_5 (by have := HBD.out; omega) (by have := HBD.out; omega)
            have HL := Aside0.mk (show (xw0 true false ++ xnums a0_2 a0_3 a0_4 a0_5 3).length ≤ 8 by simp [xw0, xnums])
            go_wp2_with (first | (go_at_call 76; refine (named_at3 w.heap.size _).mono ?_; rintro e w' ⟨rfl, rfl⟩) | (go_at_call 69; refine (itoa_any a0_5 (by have := HBD.out; omega) (by have := HBD.out; omega) _ hb16.out).mono ?_; rintro e w' ⟨rfl, hb⟩; have HT1 := Aside0.mk (TY_below HTY.out hb); clear HTY hb q0 q1 q2 q3 q4 q5 y0 y1 y2 y3; have HTY := HT1; clear HT1) | (at_builtin; refine Kd.R_append Kd.string (w0 := w) w.heap.size rfl (.tmp 25) (.tmp 34) 121 9 (.string ⟨#[]⟩) 16 rfl Tryd.underlying121 info9 rfl (by decide) (by omega) _ (xw0 true false ++ xnums a0_2 a0_3 a0_4 a0_5 3) (xnum a0_2 a0_3 a0_4 a0_5 3) [.string (xnum a0_2 a0_3 a0_4 a0_5 3)] (fun j => j ≠ w5.heap.size) (fun _ => False) rfl rfl rfl (fun _ hk => hk.elim) (fun j hj => by have := lt_of_blk9 HTY.out.2.2.1; omega) HTY.out.1 HTY.out.2.2.2 HTY.out.2.2.2.size (by have := HL.out; omega) ?_; intro v1' w5' ho hb' hg hat; have HT1 := Aside0.mk (TY_append HTY.out ho hb' hg); clear HTY ho hb' hg hat; have HTY := HT1; clear HT1))
            exact ⟨⟨4, by omega, rfl, ⟨by rw [xnums_succ, ← List.append_assoc]; exact HTY.out⟩⟩, by simp [intOf]⟩
        · obtain rfl : i = 4 := by omega
          obtain ⟨A, c, rfl, hle⟩ := Kd.R_reads HTY.out.1
          have HLE := Aside0.mk hle
          have HB := Aside0.mk HTY.out.2.2.2
          clear hle hlt hi
          go_wp2_with (fail)
          refine (strings_Join.calls A c (xwords true false a0_2 a0_3 a0_4 a0_5) ⟨#[32]⟩ _ _ HLE.out.2 HLE.out.1 HJF.out).mono ?_
          rintro e w' ⟨rfl, hb⟩
          go_wp2_with (fail)
          go_ret
          exact ⟨rfl, below_then HB.out HB.out.size hb⟩
    · go_loopw [3, 5, 21] (fun v3 v5 v21 wr => ∃ i : Nat, i ≤ 4 ∧ v21 = .int .i64 (i : Int) ∧ Aside0 (TY w w6.heap.size true true a0_2 a0_3 a0_4 a0_5 wr v3 (xw0 true true ++ xnums a0_2 a0_3 a0_4 a0_5 i))) (fun v3 v5 v21 _ => 4 - (intOf v21).toNat)
      case atStart =>
        exact ⟨0, by omega, rfl, HT3⟩
      case round =>
        clear HT3
        obtain ⟨i, hi, rfl, HTY⟩ := hrel
        by_cases hlt : i < 4
        · obtain ⟨⟨q0, q1, q2, q3, q4, q5⟩, _⟩ := six_cell HTY.out.2.1
          obtain ⟨y0, y1, y2, y3⟩ := four_cell HTY.out.2.2.1
          have hb16 : (Aside0 (EnvW wr)) := ⟨HE.out.below HTY.out.2.2.2⟩
          have hi4 : i = 0 ∨ i = 1 ∨ i = 2 ∨ i = 3 := by omega
          clear hi hlt
          rcases hi4 with rfl | rfl | rfl | rfl
          · have hsz := itoaB_len a0_2 (by have := HBD.out; omega) (by have := HBD.out; omega)
            have HL := Aside0.mk (show (xw0 true true ++ xnums a0_2 a0_3 a0_4 a0_5 0).length ≤ 8 by simp [xw0, xnums])
            go_wp2_with (first | (go_at_call 76; refine (named_at0 w.heap.size _).mono ?_; rintro e w' ⟨rfl, rfl⟩) | (go_at_call 69; refine (itoa_any a0_2 (by have := HBD.out; omega) (by have := HBD.out; omega) _ hb16.out).mono ?_; rintro e w' ⟨rfl, hb⟩; have HT1 := Aside0.mk (TY_below HTY.out hb); clear HTY hb q0 q1 q2 q3 q4 q5 y0 y1 y2 y3; have HTY := HT1; clear HT1) | (at_builtin; refine Kd.R_append Kd.string (w0 := w) w.heap.size rfl (.tmp 25) (.tmp 34) 121 9 (.string ⟨#[]⟩) 16 rfl Tryd.underlying121 info9 rfl (by decide) (by omega) _ (xw0 true true ++ xnums a0_2 a0_3 a0_4 a0_5 0) (xnum a0_2 a0_3 a0_4 a0_5 0) [.string (xnum a0_2 a0_3 a0_4 a0_5 0)] (fun j => j ≠ w6.heap.size) (fun _ => False) rfl rfl rfl (fun _ hk => hk.elim) (fun j hj => by have := lt_of_blk9 HTY.out.2.2.1; omega) HTY.out.1 HTY.out.2.2.2 HTY.out.2.2.2.size (by have := HL.out; omega) ?_; intro v1' w5' ho hb' hg hat; have HT1 := Aside0.mk (TY_append HTY.out ho hb' hg); clear HTY ho hb' hg hat; have HTY := HT1; clear HT1))
            exact ⟨⟨1, by omega, rfl, ⟨by rw [xnums_succ, ← List.append_assoc]; exact HTY.out⟩⟩, by simp [intOf]⟩
          · have hsz := itoaB_len a0_3 (by have := HBD.out; omega) (by have := HBD.out; omega)
            have HL := Aside0.mk (show (xw0 true true ++ xnums a0_2 a0_3 a0_4 a0_5 1).length ≤ 8 by simp [xw0, xnums])
            go_wp2_with (first | (go_at_call 76; refine (named_at1 w.heap.size _).mono ?_; rintro e w' ⟨rfl, rfl⟩) | (go_at_call 69; refine (itoa_any a0_3 (by have := HBD.out; omega) (by have := HBD.out; omega) _ hb16.out).mono ?_; rintro e w' ⟨rfl, hb⟩; have HT1 := Aside0.mk (TY_below HTY.out hb); clear HTY hb q0 q1 q2 q3 q4 q5 y0 y1 y2 y3; have HTY := HT1; clear HT1) | (at_builtin; refine Kd.R_append Kd.string (w0 := w) w.heap.size rfl (.tmp 25) (.tmp 34) 121 9 (.string ⟨#[]⟩) 16 rfl Tryd.underlying121 info9 rfl (by decide) (by omega) _ (xw0 true true ++ xnums a0_2 a0_3 a0_4 a0_5 1) (xnum a0_2 a0_3 a0_4 a0_5 1) [.string (xnum a0_2 a0_3 a0_4 a0_5 1)] (fun j => j ≠ w6.heap.size) (fun _ => False) rfl rfl rfl (fun _ hk => hk.elim) (fun j hj => by have := lt_of_blk9 HTY.out.2.2.1; omega) HTY.out.1 HTY.out.2.2.2 HTY.out.2.2.2.size (by have := HL.out; omega) ?_; intro v1' w5' ho hb' hg hat; have HT1 := Aside0.mk (TY_append HTY.out ho hb' hg); clear HTY ho hb' hg hat; have HTY := HT1; clear HT1))
            exact ⟨⟨2, by omega, rfl, ⟨by rw [xnums_succ, ← List.append_assoc]; exact HTY.out⟩⟩, by simp [intOf]⟩
          · have hsz := itoaB_len a0_4 (by have := HBD.out; omega) (by have := HBD.out; omega)
            have HL := Aside0.mk (show (xw0 true true ++ xnums a0_2 a0_3 a0_4 a0_5 2).length ≤ 8 by simp [xw0, xnums])
            go_wp2_with (first | (go_at_call 76; refine (named_at2 w.heap.size _).mono ?_; rintro e w' ⟨rfl, rfl⟩) | (go_at_call 69; refine (itoa_any a0_4 (by have := HBD.out; omega) (by have := HBD.out; omega) _ hb16.out).mono ?_; rintro e w' ⟨rfl, hb⟩; have HT1 := Aside0.mk (TY_below HTY.out hb); clear HTY hb q0 q1 q2 q3 q4 q5 y0 y1 y2 y3; have HTY := HT1; clear HT1) | (at_builtin; refine Kd.R_append Kd.string (w0 := w) w.heap.size rfl (.tmp 25) (.tmp 34) 121 9 (.string ⟨#[]⟩) 16 rfl Tryd.underlying121 info9 rfl (by decide) (by omega) _ (xw0 true true ++ xnums a0_2 a0_3 a0_4 a0_5 2) (xnum a0_2 a0_3 a0_4 a0_5 2) [.string (xnum a0_2 a0_3 a0_4 a0_5 2)] (fun j => j ≠ w6.heap.size) (fun _ => False) rfl rfl rfl (fun _ hk => hk.elim) (fun j hj => by have := lt_of_blk9 HTY.out.2.2.1; omega) HTY.out.1 HTY.out.2.2.2 HTY.out.2.2.2.size (by have := HL.out; omega) ?_; intro v1' w5' ho hb' hg hat; have HT1 := Aside0.mk (TY_append HTY.out ho hb' hg); clear HTY ho hb' hg hat; have HTY := HT1; clear HT1))
            exact ⟨⟨3, by omega, rfl, ⟨by rw [xnums_succ, ← List.append_assoc]; exact HTY.out⟩⟩, by simp [intOf]⟩
          · have hsz := itoaB_len a0_5 (by have := HBD.out; omega) (by have := HBD.out; omega)
            have HL := Aside0.mk (show (xw0 true true ++ xnums a0_2 a0_3 a0_4 a0_5 3).length ≤ 8 by simp [xw0, xnums])
            go_wp2_with (first | (go_at_call 76; refine (named_at3 w.heap.size _).mono ?_; rintro e w' ⟨rfl, rfl⟩) | (go_at_call 69; refine (itoa_any a0_5 (by have := HBD.out; omega) (by have := HBD.out; omega) _ hb16.out).mono ?_; rintro e w' ⟨rfl, hb⟩; have HT1 := Aside0.mk (TY_below HTY.out hb); clear HTY hb q0 q1 q2 q3 q4 q5 y0 y1 y2 y3; have HTY := HT1; clear HT1) | (at_builtin; refine Kd.R_append Kd.string (w0 := w) w.heap.size rfl (.tmp 25) (.tmp 34) 121 9 (.string ⟨#[]⟩) 16 rfl Tryd.underlying121 info9 rfl (by decide) (by omega) _ (xw0 true true ++ xnums a0_2 a0_3 a0_4 a0_5 3) (xnum a0_2 a0_3 a0_4 a0_5 3) [.string (xnum a0_2 a0_3 a0_4 a0_5 3)] (fun j => j ≠ w6.heap.size) (fun _ => False) rfl rfl rfl (fun _ hk => hk.elim) (fun j hj => by have := lt_of_blk9 HTY.out.2.2.1; omega) HTY.out.1 HTY.out.2.2.2 HTY.out.2.2.2.size (by have := HL.out; omega) ?_; intro v1' w5' ho hb' hg hat; have HT1 := Aside0.mk (TY_append HTY.out ho hb' hg); clear HTY ho hb' hg hat; have HTY := HT1; clear HT1))
            exact ⟨⟨4, by omega, rfl, ⟨by rw [xnums_succ, ← List.append_assoc]; exact HTY.out⟩⟩, by simp [intOf]⟩
        · obtain rfl : i = 4 := by omega
          obtain ⟨A, c, rfl, hle⟩ := Kd.R_reads HTY.out.1
          have HLE := Aside0.mk hle
          have HB := Aside0.mk HTY.out.2.2.2
          clear hle hlt hi
          go_wp2_with (fail)
          refine (strings_Join.calls A c (xwords true true a0_2 a0_3 a0_4 a0_5) ⟨#[32]⟩ _ _ HLE.out.2 HLE.out.1 HJF.out).mono ?_
          rintro e w' ⟨rfl, hb⟩
          go_wp2_with (fail)
          go_ret
          exact ⟨rfl, below_then HB.out HB.out.size hb⟩
end Go.Proofs.YtpmieapgbdbabaaDoor.QAll
end

section
/- strings.Cut at one byte and strings.Split at any text of one byte and more, in the shape that the walks take them. -/
set_option linter.unusedVariables false
set_option linter.unusedSimpArgs false
namespace Go.Proofs.YtpmieapgbdbabaaDoor.QAll
open Go.RowKit Go.Shelf Go.Proofs.YtpmieapgbdbabaaDoorW.PrintWords Go.Proofs.YtpmieapgbdbabaaDoorW.PrintLast Go.Proofs.YtpmieapgbdbabaaDoorW.PrintMore

def oneB (s : ByteArray) : UInt8 := s.data.getD 0 0
theorem oneB_eq (s : ByteArray) (h : s.size = 1) : s = ⟨#[oneB s]⟩ := by
  obtain ⟨a⟩ := s
  have h1 : a.size = 1 := h
  congr 1
  apply Array.ext
  · simpa using h1
  · intro i hi hj
    have : i = 0 := by omega
    subst this
    simp [oneB, hi]
def strings_Cut.f (a0 a1 : ByteArray) : Option (ByteArray × ByteArray × Bool) :=
  if a1.size = 1 ∧ a0.size ≤ 9223372036854775807 then some (cutA a0 (oneB a1), cutB a0 (oneB a1), cutHas a0 (oneB a1)) else none
theorem strings_Cut.calls (a0 a1 : ByteArray) (r1 r2 : ByteArray) (r3 : Bool) (w : World) (h : strings_Cut.f a0 a1 = some (r1, r2, r3)) :
    Calls Tryd.prog 70 #[.string a0, .string a1] w fun e w' => e = .returned (.tuple #[.string r1, .string r2, .bool r3]) ∧ Drawn0 w w' := by
  unfold strings_Cut.f at h
  split at h
  case isFalse => cases h
  rename_i hs
  simp only [Option.some.injEq, Prod.mk.injEq] at h
  obtain ⟨rfl, rfl, rfl⟩ := h
  have := cut_one a0 (oneB a1) w hs.2
  rw [← oneB_eq a1 hs.1] at this
  exact this
def splitS (s sep : ByteArray) : List ByteArray := Lib.splitB sep 0 (Lib.countB s sep) s
def strings_Split.f (a0 a1 : ByteArray) : Option (List ByteArray) := if 1 ≤ a1.size ∧ a0.size ≤ 1000000 then some (splitS a0 a1) else none
theorem strings_Split.calls (a0 a1 : ByteArray) (r : List ByteArray) (w : World) (hE_ : EnvW w) (h : strings_Split.f a0 a1 = some r) :
    Calls Tryd.prog 79 #[.string a0, .string a1] w fun e w' => ∃ v0_ : Value, e = .returned (v0_) ∧ Kd.R Kd.string 9 w' w.heap.size (fun _ => True) v0_ r ∧ Below w.heap.size w w' := by
  unfold strings_Split.f at h
  split at h
  case isFalse => cases h
  rename_i hs
  obtain rfl := Option.some.inj h
  obtain ⟨m, hm⟩ := hE_.mx
  refine (Any.strings_Split { Tryd.laysM146 with } Tryd.laysM146.i9 a0 a1 m w (by omega) hm hs.1).mono ?_
  rintro e w' ⟨rfl, rfl⟩
  have hlen : (splitS a0 a1).length = Lib.countB a0 a1 + 1 := Lib.splitB_all a1 hs.1 0 _ a0 rfl
  have hle := Lib.countB_le a1 hs.1 a0.size a0 (Nat.le_refl _)
  have ho := World.ownsRow_lit (base := w.heap.size) (e := 9) (size := 1) w ((splitS a0 a1).map Value.string).toArray (Lib.countB a0 a1 + 1) (Nat.le_refl _) (by have : maxLen = 9223372036854775807 := rfl; omega) (by simp [hlen])
  refine ⟨_, rfl, ?_, (Below.refl _ _).alloc (Nat.le_refl _) _⟩
  rw [List.toList_toArray, ← hlen] at ho
  rw [← hlen]
  exact Kd.R_of_own ho (fun _ _ => trivial)
end Go.Proofs.YtpmieapgbdbabaaDoor.QAll
end

section
/- Walks, written by a program of this session (wip/pp): a Go function comes to what the Lean function beside it tells. -/
namespace Go.Proofs.YtpmieapgbdbabaaDoor.QAll
open Go.RowKit Go.Proofs.YtpmieapgbdbabaaDoorW.PrintWords Go.Proofs.YtpmieapgbdbabaaDoorW.PrintLast Go.Proofs.YtpmieapgbdbabaaDoorW.PrintMore
attribute [local go_sem] max2_int min2_int max_two min_two max_three min_three max_four min_four
set_option linter.unusedVariables false
set_option linter.unusedSimpArgs false

mutual
def squelchref04_Right.j0 : Nat → Bool → ByteArray → Int → Option (Bool)
 | 0, _, _, _ => none
 | k + 1, x24, x325000, x325001 => if x24 = true then (some false) else (squelchref04_Right.l0 k 0 x325000 x325001)
def squelchref04_Right.l0 : Nat → Int → ByteArray → Int → Option (Bool)
 | 0, _, _, _ => none
 | k + 1, x3, x325000, x325001 => if x3 < (x325000.size : Int) then (if 0 ≤ x3 then (if (bt x325000 x3) ≥ 65 then (if (bt x325000 x3) ≤ 90 then (squelchref04_Right.l0 k (wrap64 (x3 + 1)) x325000 x325001) else (if (bt x325000 x3) ≥ 48 then (if ((bt x325000 x3) ≤ 57) then (squelchref04_Right.l0 k (wrap64 (x3 + 1)) x325000 x325001) else (some false)) else (some false))) else (if (bt x325000 x3) ≥ 48 then (if ((bt x325000 x3) ≤ 57) then (squelchref04_Right.l0 k (wrap64 (x3 + 1)) x325000 x325001) else (some false)) else (some false))) else (none)) else (some true)
end
def squelchref04_Right.f (k : Nat) (a0_0 : ByteArray) (a0_1 : Int) : Option (Bool) := if (a0_0.size : Int) < 1 then (squelchref04_Right.j0 k true a0_0 a0_1) else (if (a0_0.size : Int) > 6 then (squelchref04_Right.j0 k true a0_0 a0_1) else (if a0_1 < 0 then (squelchref04_Right.j0 k true a0_0 a0_1) else (squelchref04_Right.j0 k (decide (a0_1 > 15)) a0_0 a0_1)))
end Go.Proofs.YtpmieapgbdbabaaDoor.QAll
end

section
/- Walks, written by a program of this session (wip/pp): a Go function comes to what the Lean function beside it tells. -/
namespace Go.Proofs.YtpmieapgbdbabaaDoor.QAll
open Go.RowKit Go.Proofs.YtpmieapgbdbabaaDoorW.PrintWords Go.Proofs.YtpmieapgbdbabaaDoorW.PrintLast Go.Proofs.YtpmieapgbdbabaaDoorW.PrintMore
attribute [local go_sem] max2_int min2_int max_two min_two max_three min_three max_four min_four
set_option linter.unusedVariables false
set_option linter.unusedSimpArgs false

def squelchref04_Digits.f (a0 : Int) : Option (ByteArray) := if a0 < 10 then (if 0 ≤ a0 then (if a0 ≤ (wrap64 (a0 + 1)) then (if (wrap64 (a0 + 1)) ≤ 10 then (some ((⟨#[48, 49, 50, 51, 52, 53, 54, 55, 56, 57]⟩ : ByteArray).extract (a0 : Int).toNat ((wrap64 (a0 + 1)) : Int).toNat)) else (none)) else (none)) else (none)) else (if 0 ≤ (wrap64 (Int.tdiv a0 10)) then (if (wrap64 (Int.tdiv a0 10)) ≤ (wrap64 ((wrap64 (Int.tdiv a0 10)) + 1)) then (if (wrap64 ((wrap64 (Int.tdiv a0 10)) + 1)) ≤ 10 then (if 0 ≤ (Int.tmod a0 10) then (if (Int.tmod a0 10) ≤ (wrap64 ((Int.tmod a0 10) + 1)) then (if (wrap64 ((Int.tmod a0 10) + 1)) ≤ 10 then (if ((⟨#[48, 49, 50, 51, 52, 53, 54, 55, 56, 57]⟩ : ByteArray).extract ((wrap64 (Int.tdiv a0 10)) : Int).toNat ((wrap64 ((wrap64 (Int.tdiv a0 10)) + 1)) : Int).toNat).size + ((⟨#[48, 49, 50, 51, 52, 53, 54, 55, 56, 57]⟩ : ByteArray).extract ((Int.tmod a0 10) : Int).toNat ((wrap64 ((Int.tmod a0 10) + 1)) : Int).toNat).size ≤ 9223372036854775807 then (some (((⟨#[48, 49, 50, 51, 52, 53, 54, 55, 56, 57]⟩ : ByteArray).extract ((wrap64 (Int.tdiv a0 10)) : Int).toNat ((wrap64 ((wrap64 (Int.tdiv a0 10)) + 1)) : Int).toNat) ++ ((⟨#[48, 49, 50, 51, 52, 53, 54, 55, 56, 57]⟩ : ByteArray).extract ((Int.tmod a0 10) : Int).toNat ((wrap64 ((Int.tmod a0 10) + 1)) : Int).toNat))) else (none)) else (none)) else (none)) else (none)) else (none)) else (none)) else (none))
end Go.Proofs.YtpmieapgbdbabaaDoor.QAll
end

section
/- Walks, written by a program of this session (wip/pp): a Go function comes to what the Lean function beside it tells. -/
namespace Go.Proofs.YtpmieapgbdbabaaDoor.QAll
open Go.RowKit Go.Proofs.YtpmieapgbdbabaaDoorW.PrintWords Go.Proofs.YtpmieapgbdbabaaDoorW.PrintLast Go.Proofs.YtpmieapgbdbabaaDoorW.PrintMore
attribute [local go_sem] max2_int min2_int max_two min_two max_three min_three max_four min_four
set_option linter.unusedVariables false
set_option linter.unusedSimpArgs false

mutual
def squelchref04_Parse.l0 : Nat → ByteArray → Int → ByteArray → Int → Option (ByteArray × Int × Bool)
 | 0, _, _, _, _ => none
 | k + 1, x0, x5, x469000, x469001 => if x5 < (x0.size : Int) then (if 0 ≤ x5 then (squelchref04_Parse.j1 k x0 x5 ((bt x0 x5) != 45) x469000 x469001) else (none)) else (squelchref04_Parse.j1 k x0 x5 false x469000 x469001)
def squelchref04_Parse.j1 : Nat → ByteArray → Int → Bool → ByteArray → Int → Option (ByteArray × Int × Bool)
 | 0, _, _, _, _, _ => none
 | k + 1, x0, x5, x19, x469000, x469001 => if x19 = true then (if 0 ≤ x5 then (if x5 < (x0.size : Int) then (if (bt x0 x5) ≥ 97 then (if (bt x0 x5) ≤ 122 then ((some (([((bt x0 x5) - 32) % 256] : List Int) : List Int)).bind fun y469 => (if x469000.size + (strOfNums y469).size ≤ 9223372036854775807 then (squelchref04_Parse.l0 k x0 (wrap64 (x5 + 1)) (x469000 ++ (strOfNums y469)) x469001) else (none))) else ((some (([bt x0 x5] : List Int) : List Int)).bind fun y472 => (if x469000.size + (strOfNums y472).size ≤ 9223372036854775807 then (squelchref04_Parse.l0 k x0 (wrap64 (x5 + 1)) (x469000 ++ (strOfNums y472)) x469001) else (none)))) else ((some (([bt x0 x5] : List Int) : List Int)).bind fun y475 => (if x469000.size + (strOfNums y475).size ≤ 9223372036854775807 then (squelchref04_Parse.l0 k x0 (wrap64 (x5 + 1)) (x469000 ++ (strOfNums y475)) x469001) else (none)))) else (none)) else (none)) else (if x5 < (x0.size : Int) then (squelchref04_Parse.l1 k x0 x5 false 0 x469000 x469001) else ((squelchref04_Right.f k x469000 x469001).bind fun t480 => (if t480 = true then (some (x469000, x469001, true)) else (some ((⟨#[]⟩ : ByteArray), 0, false)))))
def squelchref04_Parse.l1 : Nat → ByteArray → Int → Bool → Int → ByteArray → Int → Option (ByteArray × Int × Bool)
 | 0, _, _, _, _, _, _ => none
 | k + 1, x0, x5, x7, x8, x469000, x469001 => if x8 ≤ 15 then ((squelchref04_Digits.f x8).bind fun t478 => (if 0 ≤ (wrap64 (x5 + 1)) then (if (wrap64 (x5 + 1)) ≤ (x0.size : Int) then (if t478.toList = (x0.extract ((wrap64 (x5 + 1)) : Int).toNat x0.size).toList then (squelchref04_Parse.l1 k x0 x5 true (wrap64 (x8 + 1)) x469000 x8) else (squelchref04_Parse.l1 k x0 x5 x7 (wrap64 (x8 + 1)) x469000 x469001)) else (none)) else (none))) else (if x7 = true then ((squelchref04_Right.f k x469000 x469001).bind fun t479 => (if t479 = true then (some (x469000, x469001, true)) else (some ((⟨#[]⟩ : ByteArray), 0, false)))) else (some ((⟨#[]⟩ : ByteArray), 0, false)))
end
def squelchref04_Parse.f (k : Nat) (a0 : ByteArray) : Option (ByteArray × Int × Bool) := squelchref04_Parse.l0 k a0 0 (⟨#[]⟩ : ByteArray) 0
end Go.Proofs.YtpmieapgbdbabaaDoor.QAll
end

section
/- Walks, written by a program of this session (wip/pp): a Go function comes to what the Lean function beside it tells. -/
namespace Go.Proofs.YtpmieapgbdbabaaDoor.QAll
open Go.RowKit Go.Proofs.YtpmieapgbdbabaaDoorW.PrintWords Go.Proofs.YtpmieapgbdbabaaDoorW.PrintLast Go.Proofs.YtpmieapgbdbabaaDoorW.PrintMore
attribute [local go_sem] max2_int min2_int max_two min_two max_three min_three max_four min_four
set_option linter.unusedVariables false
set_option linter.unusedSimpArgs false

def squelchref04_Text.f (a0_0 : ByteArray) (a0_1 : Int) : Option (ByteArray) := if a0_1 = 0 then (some a0_0) else (if a0_0.size + 1 ≤ 9223372036854775807 then ((squelchref04_Digits.f a0_1).bind fun t396 => (if (a0_0 ++ (⟨#[45]⟩ : ByteArray)).size + t396.size ≤ 9223372036854775807 then (some ((a0_0 ++ (⟨#[45]⟩ : ByteArray)) ++ t396)) else (none))) else (none))
end Go.Proofs.YtpmieapgbdbabaaDoor.QAll
end

section
/- What the reference says of a call's word: which call is right, its digits, and what is read of a word: as much as the walked program tells; over plain strings and numbers. -/
set_option linter.unusedVariables false
namespace Go.Proofs.YtpmieapgbdbabaaDoor.Pure
open Go.RowKit Go.Proofs.YtpmieapgbdbabaaDoor.QAll Go.Proofs.YtpmieapgbdbabaaDoorW.PrintWords Go.Proofs.YtpmieapgbdbabaaDoorW.PrintLast

theorem ba_eq {a b : ByteArray} (h : a.toList = b.toList) : a = b := by
  rw [Go.ByteArray.toList_eq, Go.ByteArray.toList_eq] at h
  cases a; cases b
  congr 1
  exact Array.ext' h
theorem len_eq (a : ByteArray) : a.toList.length = a.size := by rw [Go.ByteArray.toList_eq]; simp
theorem bt_at (s : ByteArray) (i : Nat) (h : i < s.size) : ∃ c r, s.toList.drop i = c :: r ∧ s.toList.drop (i + 1) = r ∧ bt s i = (c.toNat : Int) := by
  have hl : i < s.toList.length := by rw [len_eq]; exact h
  refine ⟨s.toList[i], s.toList.drop (i + 1), List.drop_eq_getElem_cons hl, rfl, ?_⟩
  rw [bt_data s i h]
  congr 2
  simp only [Go.ByteArray.toList_eq]
end Go.Proofs.YtpmieapgbdbabaaDoor.Pure
end

section
/- Walks, written by a program of this session (wip/pp): a Go function comes to what the Lean function beside it tells. -/
namespace Go.Proofs.YtpmieapgbdbabaaDoor.QAll
open Go.RowKit Go.Proofs.YtpmieapgbdbabaaDoorW.PrintWords Go.Proofs.YtpmieapgbdbabaaDoorW.PrintLast Go.Proofs.YtpmieapgbdbabaaDoorW.PrintMore
attribute [local go_sem] max2_int min2_int max_two min_two max_three min_three max_four min_four
set_option linter.unusedVariables false
set_option linter.unusedSimpArgs false

def squelchref05_split.l0 : Nat → ByteArray → Int → List ByteArray → Int → Option (List ByteArray)
 | 0, _, _, _, _ => none
 | k + 1, x0, x1, x5, x6 => if x6 < (x0.size : Int) then (if 0 ≤ x6 then (if (bt x0 x6) = x1 then (if x5.length < 8796093022208 then (squelchref05_split.l0 k x0 x1 (x5 ++ [(⟨#[]⟩ : ByteArray)]) (wrap64 (x6 + 1))) else (none)) else (if 0 ≤ (wrap64 ((x5.length : Int) - 1)) then (if (wrap64 ((x5.length : Int) - 1)) < (x5.length : Int) then (if x6 ≤ (wrap64 (x6 + 1)) then (if (wrap64 (x6 + 1)) ≤ (x0.size : Int) then (if (rdOf ByteArray.empty x5 (wrap64 ((x5.length : Int) - 1))).size + (x0.extract (x6 : Int).toNat ((wrap64 (x6 + 1)) : Int).toNat).size ≤ 9223372036854775807 then (squelchref05_split.l0 k x0 x1 (x5.set ((wrap64 ((x5.length : Int) - 1)) : Int).toNat ((rdOf ByteArray.empty x5 (wrap64 ((x5.length : Int) - 1))) ++ (x0.extract (x6 : Int).toNat ((wrap64 (x6 + 1)) : Int).toNat))) (wrap64 (x6 + 1))) else (none)) else (none)) else (none)) else (none)) else (none))) else (none)) else (some x5)
def squelchref05_split.f (k : Nat) (a0 : ByteArray) (a1 : Int) : Option (List ByteArray) := squelchref05_split.l0 k a0 a1 (([(⟨#[]⟩ : ByteArray)] : List ByteArray)) 0
end Go.Proofs.YtpmieapgbdbabaaDoor.QAll
end

section
/- A text's words, parted by one byte: what strings.Split tells and what the reference tells are the same; over plain lists. -/
set_option linter.unusedVariables false
set_option linter.unusedSimpArgs false
namespace Go.Proofs.YtpmieapgbdbabaaDoor.Pure
open Go.RowKit Go.Proofs.YtpmieapgbdbabaaDoor.QAll Go.Proofs.YtpmieapgbdbabaaDoorW.PrintWords

/-- The byte ahead of the first word. -/
def onHead (p : List UInt8) : List (List UInt8) → List (List UInt8)
  | [] => [p]
  | x :: xs => (p ++ x) :: xs
def splitL (c : UInt8) : List UInt8 → List (List UInt8)
  | [] => [[]]
  | b :: r => if b = c then [] :: splitL c r else onHead [b] (splitL c r)
theorem splitL_ne (c : UInt8) : ∀ l, splitL c l ≠ []
  | [] => by simp [splitL]
  | b :: r => by
    unfold splitL
    split
    · simp
    · cases h : splitL c r <;> simp [onHead]
theorem splitK_eq (c : UInt8) : ∀ l : List UInt8, Lib.splitK [c] 0 (Lib.count l [c]) l = splitL c l
  | [] => by
    rw [Lib.count_miss (by simp [Lib.index])]
    rfl
  | b :: l => by
    have ih := splitK_eq c l
    by_cases h : b = c
    · subst h
      have hix : Lib.index (b :: l) [b] = 0 := by rw [Lib.index]; simp [List.isPrefixOf]
      rw [Lib.count_cons_eq, Nat.add_comm, Lib.splitK, hix, if_neg (by decide), splitL, if_pos rfl, ← ih]
      rfl
    · have hp : ([c] : List UInt8).isPrefixOf (b :: l) = false := by simp [List.isPrefixOf, Ne.symm h]
      have hix : Lib.index (b :: l) [c] = if Lib.index l [c] == -1 then -1 else Lib.index l [c] + 1 := by rw [Lib.index, hp]; simp
      rw [Lib.count_cons_ne b c l h, splitL, if_neg h]
      by_cases hm : Lib.index l [c] = -1
      · rw [Lib.count_miss hm] at ih ⊢
        rw [← ih]
        rfl
      · have hge := Lib.index_ge l [c]
        obtain ⟨j, hj⟩ : ∃ j : Nat, Lib.index l [c] = j := ⟨(Lib.index l [c]).toNat, by omega⟩
        have hc := Lib.count_hit (by simp : ([c] : List UInt8) ≠ []) hj
        obtain ⟨k, hk⟩ : ∃ k, Lib.count l [c] = k + 1 := ⟨_, by rw [hc, Nat.add_comm]⟩
        rw [hk] at ih ⊢
        rw [Lib.splitK, hj, if_neg (by first | (simp; done) | (simp; omega))] at ih
        rw [Lib.splitK, hix, hj, if_neg (by first | (simp; done) | (simp; omega)), if_neg (by first | (simp; done) | (simp; omega)), ← ih]
        have e1 : ((j : Int) + 1).toNat = j + 1 := by omega
        have e2 : ((j : Int)).toNat = j := by omega
        rw [e1, e2]
        simp [onHead]
theorem split_list (s : ByteArray) (c : UInt8) : (splitS s ⟨#[c]⟩).map (·.toList) = splitL c s.toList := by
  have h := Lib.splitB_data (⟨#[c]⟩ : ByteArray) 0 (Lib.countB s ⟨#[c]⟩) s
  have e : (fun x : ByteArray => x.data.toList) = (fun x : ByteArray => x.toList) := by funext x; rw [Go.ByteArray.toList_eq]
  rw [e] at h
  unfold splitS
  rw [h, Go.ByteArray.toList_eq]
  exact splitK_eq c s.data.toList
theorem map_inj : ∀ (a b : List ByteArray), a.map (·.toList) = b.map (·.toList) → a = b
  | [], [], _ => rfl
  | [], _ :: _, h => by simp at h
  | _ :: _, [], h => by simp at h
  | x :: a, y :: b, h => by
    simp only [List.map_cons, List.cons.injEq] at h
    rw [ba_eq h.1, map_inj a b h.2]
/-- No word is longer than the text; there are no more words than bytes, and one. -/
theorem splitL_len (c : UInt8) : ∀ l : List UInt8, (splitL c l).length ≤ l.length + 1 ∧ ∀ x ∈ splitL c l, x.length ≤ l.length
  | [] => by simp [splitL]
  | b :: r => by
    obtain ⟨h1, h2⟩ := splitL_len c r
    unfold splitL
    split
    · refine ⟨by simp; omega, fun x hx => ?_⟩
      rcases List.mem_cons.1 hx with rfl | hx
      · simp
      · have := h2 x hx; simp; omega
    · cases hr : splitL c r with
      | nil => exact absurd hr (splitL_ne c r)
      | cons y ys =>
        rw [hr] at h1 h2
        refine ⟨by simp [onHead] at h1 ⊢; omega, fun x hx => ?_⟩
        simp only [onHead, List.mem_cons] at hx
        rcases hx with rfl | hx
        · have := h2 y (by simp); simp; omega
        · have := h2 x (by simp [hx]); simp; omega
theorem split_sizes (s : ByteArray) (c : UInt8) : (splitS s ⟨#[c]⟩) ≠ [] ∧ (splitS s ⟨#[c]⟩).length ≤ s.size + 1 ∧ ∀ x ∈ splitS s ⟨#[c]⟩, x.size ≤ s.size := by
  have h := split_list s c
  obtain ⟨h1, h2⟩ := splitL_len c s.toList
  rw [← h, List.length_map, len_eq] at h1
  refine ⟨fun e => splitL_ne c s.toList (by rw [← h, e]; rfl), h1, fun x hx => ?_⟩
  have := h2 x.toList (by rw [← h]; exact List.mem_map_of_mem hx)
  rw [len_eq, len_eq] at this
  exact this
end Go.Proofs.YtpmieapgbdbabaaDoor.Pure
end

section
/- xid.Parse, walked by hand: the parameters of words, or none and ErrForm. -/
set_option linter.unusedVariables false
set_option linter.unusedSimpArgs false
namespace Go.Proofs.YtpmieapgbdbabaaDoor.QAll
open Go.RowKit Go.Shelf Go.Proofs.YtpmieapgbdbabaaDoorW.PrintWords Go.Proofs.YtpmieapgbdbabaaDoorW.PrintLast Go.Proofs.YtpmieapgbdbabaaDoorW.PrintMore

/-- The number of a word; none, if it is none. -/
def atoN (s : ByteArray) : Option Int := match Lib.atoiAll s.data.toList with
  | .ok v => some v
  | _ => none
theorem atoi_ok (s : ByteArray) (hs : s.size ≤ 1000000) (v : Int) (h : atoN s = some v) (w : World) :
    Calls Tryd.prog 72 #[.string s] w fun e w' => e = .returned (.tuple #[.int .i64 v, .nilIface]) ∧ Below w.heap.size w w' := by
  unfold atoN at h
  cases ha : Lib.atoiAll s.data.toList with
  | ok v' =>
    rw [ha] at h
    obtain rfl := Option.some.inj h
    refine (Tryd.strconv_Atoi_ok s (by omega) v' ha w).mono ?_
    rintro e w' ⟨rfl, hw⟩
    refine ⟨rfl, ?_⟩
    rcases hw with rfl | ⟨t, rfl⟩
    · exact Below.refl _ _
    · exact bytes_below (Below.refl _ _) (Nat.le_refl _) _ _
  | _ => rw [ha] at h; cases h
theorem atoi_no (s : ByteArray) (hs : s.size ≤ 1000000) (h : atoN s = none) (w : World) (hE : EnvW w) :
    Calls Tryd.prog 72 #[.string s] w fun e w' => ∃ (v : Int) (N : Nat), e = .returned (.tuple #[.int .i64 v, .iface 160 (.pointer (some ⟨N, 0, none⟩))]) ∧ Below w.heap.size w w' := by
  unfold atoN at h
  cases ha : Lib.atoiAll s.data.toList with
  | ok v' => rw [ha] at h; cases h
  | range =>
    obtain ⟨ev, he1, he2⟩ := hE.rng
    refine (Tryd.strconv_Atoi_range s (by omega) ha ev w he1 he2).mono ?_
    rintro e w' ⟨N, rfl, _, _, hb⟩
    exact ⟨_, N, rfl, hb⟩
  | _ =>
    obtain ⟨ev, he1, he2⟩ := hE.syn
    refine (Tryd.strconv_Atoi_bad s (by omega) (fun v e => by rw [ha] at e; cases e) (fun e => by rw [ha] at e; cases e) ev w he1 he2).mono ?_
    rintro e w' ⟨N, rfl, _, _, hb⟩
    exact ⟨_, N, rfl, hb⟩
theorem six_set {w : World} {g : Nat} {a0 a1 a2 a3 a4 a5 x0 x1 x2 x3 x4 x5 : Value} {t : TypeId} (h : w.heap[g]? = some (.cells #[a0, a1, a2, a3, a4, a5] t (0, 0))) :
    ((((((w.setCell ⟨g, 0, none⟩ x0).setCell ⟨g, 1, none⟩ x1).setCell ⟨g, 2, none⟩ x2).setCell ⟨g, 3, none⟩ x3).setCell ⟨g, 4, none⟩ x4).setCell ⟨g, 5, none⟩ x5).heap[g]? = some (.cells #[x0, x1, x2, x3, x4, x5] t (0, 0)) := by
  simp [World.setCell, Array.getElem?_modify, h]
theorem six_below {n : Nat} {w W : World} {g : Nat} (h : Below n w W) (hg : n ≤ g) (x0 x1 x2 x3 x4 x5 : Value) :
    Below n w ((((((W.setCell ⟨g, 0, none⟩ x0).setCell ⟨g, 1, none⟩ x1).setCell ⟨g, 2, none⟩ x2).setCell ⟨g, 3, none⟩ x3).setCell ⟨g, 4, none⟩ x4).setCell ⟨g, 5, none⟩ x5) :=
  (((((h.setCell hg _).setCell hg _).setCell hg _).setCell hg _).setCell hg _).setCell hg _
/-- What has been read so far. -/
structure XP where
  wd : Bool
  sr : Bool
  n : Int
  k : Int
  t : Int
  m : Int
def XP.set (p : XP) (i : Nat) (v : Int) : XP := if i = 2 then { p with n := v } else if i = 3 then { p with k := v } else if i = 4 then { p with t := v } else { p with m := v }
def xwide : ByteArray := ⟨#[87, 73, 68, 69]⟩
def xsrej : ByteArray := ⟨#[83, 82, 69, 74]⟩
/-- What a word sets, if it is a number's. -/
def xpair (w : ByteArray) : Option (Nat × Int) := if cutHas w 61 = true then (atoN (cutB w 61)).bind fun v => (nameIdx (cutA w 61)).map fun i => (i, v) else none
def xstep (p : XP) (w : ByteArray) : XP := match xpair w with
  | some (i, v) => p.set i v
  | none => if w = xwide then { p with wd := true } else if w = xsrej then { p with sr := true } else p
def xzero : XP := ⟨false, false, 0, 0, 0, 0⟩
def xread (s : ByteArray) : XP := (splitS s ⟨#[32]⟩).foldl xstep xzero
def xid_Parse.f (s : ByteArray) : Option (Bool × Bool × Int × Int × Int × Int × Int) :=
  if s.size ≤ 900000 then
    if s = ⟨#[]⟩ then some (false, false, 0, 0, 0, 0, 2)
    else (xid_Text.f (xread s).wd (xread s).sr (xread s).n (xread s).k (xread s).t (xread s).m).bind fun t =>
      if t = s then some ((xread s).wd, (xread s).sr, (xread s).n, (xread s).k, (xread s).t, (xread s).m, 0) else some (false, false, 0, 0, 0, 0, 2)
  else none
theorem str_at {w : World} {A : Option Addr} {xs : List ByteArray} (h : Kd.C Kd.string w A xs.length xs) (i : Nat) (hi : i < xs.length) : ∃ ad : Addr, A = some ad ∧ w.cell? (ad.add i) = some (.string (xs.getD i ⟨#[]⟩)) := by
  obtain ⟨ad, c, e, _, hk, hc⟩ := Kd.C_get h (⟨#[]⟩ : ByteArray) (i : Int) (by omega) (by omega)
  have hk' : c = [.string (xs.getD (i : Int).toNat ⟨#[]⟩)] := hk
  subst hk'
  have := hc 0 _ rfl
  rw [show Kd.string.sz = 1 from rfl, Nat.mul_one, Nat.add_zero, Int.toNat_natCast] at this
  exact ⟨ad, e, this⟩
theorem take_str (xs : List ByteArray) (i : Nat) (h : i < xs.length) : xs.take (i + 1) = xs.take i ++ [xs.getD i ⟨#[]⟩] := by
  rw [List.take_succ_eq_append_getElem h, List.getD_eq_getElem?_getD, List.getElem?_eq_getElem h]
  rfl
/-- The parameters' block, the result's, the words, and that nothing older has turned. -/
def XI (w : World) (v14 : Value) (ws : List ByteArray) (p : XP) (W : World) : Prop :=
  W.heap[w.heap.size + 1]? = some (.cells #[.bool p.wd, .bool p.sr, .int .i64 p.n, .int .i64 p.k, .int .i64 p.t, .int .i64 p.m] 72 (0, 0)) ∧
  W.heap[w.heap.size]? = some (.cells #[.bool false, .bool false, .int .i64 0, .int .i64 0, .int .i64 0, .int .i64 0] 72 (0, 0)) ∧
  Kd.R Kd.string 9 W w.heap.size (fun _ => True) v14 ws ∧ Below w.heap.size w W
theorem XI_below {w : World} {v14 : Value} {ws : List ByteArray} {p : XP} {W W' : World} (h : XI w v14 ws p W) (hb : Below W.heap.size W W') : XI w v14 ws p W' :=
  ⟨(hb.block _ (lt_of_blk9 h.1)).trans h.1, (hb.block _ (lt_of_blk9 h.2.1)).trans h.2.1, Kd.R_below h.2.2.1 hb, below_then h.2.2.2 h.2.2.2.size hb⟩
theorem strs_far {W : World} {base g i : Nat} {v : Value} {xs : List ByteArray} {cs : Array Value} {ty : TypeId} {f : Nat × Nat} (h : Kd.R Kd.string 9 W base (fun _ => True) v xs) (hg : W.heap[g]? = some (.cells cs ty f)) (ht : ty ≠ 9) (u : Value) : Kd.R Kd.string 9 (W.setCell ⟨g, i, none⟩ u) base (fun _ => True) v xs :=
  Kd.R_mono (Kd.R_far (p := ⟨g, i, none⟩) (Kd.R_mono (Kd.R_bound h) (ok' := fun k => k ≠ g) (fun k hk e => by
    obtain ⟨_, _, _, q, hq, cs', hc⟩ := hk
    have hq' : q = 9 := by simpa [Kd.string, Kd.scalar] using hq
    subst hq'
    subst e
    rw [hg] at hc
    simp only [Option.some.injEq, Obj.cells.injEq] at hc
    exact ht hc.2.1)) (fun k hk => hk) u) (fun _ _ => trivial)
theorem XI_set {w : World} {v14 : Value} {ws : List ByteArray} {p p' : XP} {W : World} {i : Nat} {u : Value} (h : XI w v14 ws p W)
    (hp : (W.setCell ⟨w.heap.size + 1, i, none⟩ u).heap[w.heap.size + 1]? = some (.cells #[.bool p'.wd, .bool p'.sr, .int .i64 p'.n, .int .i64 p'.k, .int .i64 p'.t, .int .i64 p'.m] 72 (0, 0))) : XI w v14 ws p' (W.setCell ⟨w.heap.size + 1, i, none⟩ u) :=
  ⟨hp, (Below.heap_setCell W ⟨w.heap.size + 1, i, none⟩ u w.heap.size (by simp)).trans h.2.1, strs_far h.2.2.1 h.1 (by decide) u, h.2.2.2.setCell (by simp) u⟩
theorem XI_num {w : World} {v14 : Value} {ws : List ByteArray} {p : XP} {W : World} {i : Nat} {v : Int} (h : XI w v14 ws p W) (hi : i = 2 ∨ i = 3 ∨ i = 4 ∨ i = 5) : XI w v14 ws (p.set i v) (W.setCell ⟨w.heap.size + 1, i, none⟩ (.int .i64 v)) := by
  refine XI_set h ?_
  rcases hi with rfl | rfl | rfl | rfl <;> simp [World.setCell, Array.getElem?_modify, h.1, XP.set]
theorem XI_wd {w : World} {v14 : Value} {ws : List ByteArray} {p : XP} {W : World} (h : XI w v14 ws p W) : XI w v14 ws { p with wd := true } (W.setCell ⟨w.heap.size + 1, 0, none⟩ (.bool true)) := by
  refine XI_set h ?_
  simp [World.setCell, Array.getElem?_modify, h.1]
theorem XI_sr {w : World} {v14 : Value} {ws : List ByteArray} {p : XP} {W : World} (h : XI w v14 ws p W) : XI w v14 ws { p with sr := true } (W.setCell ⟨w.heap.size + 1, 1, none⟩ (.bool true)) := by
  refine XI_set h ?_
  simp [World.setCell, Array.getElem?_modify, h.1]
theorem nameIdx_in {s : ByteArray} {i : Nat} (h : nameIdx s = some i) : i = 2 ∨ i = 3 ∨ i = 4 ∨ i = 5 := by
  unfold nameIdx at h
  split at h
  · cases h; omega
  · split at h
    · cases h; omega
    · split at h
      · cases h; omega
      · split at h
        · cases h; omega
        · cases h
set_option maxHeartbeats 8000000 in
set_option maxRecDepth 100000 in
theorem xid_Parse.calls (a0 : ByteArray) (r0 r1 : Bool) (r2 r3 r4 r5 r6 : Int) (w : World) (hE_ : EnvW w) (h : xid_Parse.f a0 = some (r0, r1, r2, r3, r4, r5, r6)) :
    Calls Tryd.prog 49 #[.string a0] w fun e w' => e = .returned (.tuple #[.agg #[.bool r0, .bool r1, .int .i64 r2, .int .i64 r3, .int .i64 r4, .int .i64 r5], .int .i64 r6]) ∧ Below w.heap.size w w' := by
  unfold xid_Parse.f at h
  split at h
  case isFalse => cases h
  rename_i hs
  have HR_ := Aside0.mk h
  have HSZ := Aside0.mk hs
  have HSP := Aside0.mk (Pure.split_sizes a0 32)
  have hu72 := Tryd.underlying72
  have hu121 := Tryd.underlying121
  have HE := Aside0.mk hE_
  clear hE_ h hs
  go_enter Tryd.func49, Tryd.ntmps49
  go_wp2_with (fail)
  have hR := (Below.heap_alloc (w.alloc (.cells #[.bool false, .bool false, .int .i64 0, .int .i64 0, .int .i64 0, .int .i64 0] 72)) (.cells #[.bool false, .bool false, .int .i64 0, .int .i64 0, .int .i64 0, .int .i64 0] 72) w.heap.size (by simp)).trans (heap_alloc_new w (.cells #[.bool false, .bool false, .int .i64 0, .int .i64 0, .int .i64 0, .int .i64 0] 72))
  have hP := heap_alloc_new (w.alloc (.cells #[.bool false, .bool false, .int .i64 0, .int .i64 0, .int .i64 0, .int .i64 0] 72)) (.cells #[.bool false, .bool false, .int .i64 0, .int .i64 0, .int .i64 0, .int .i64 0] 72)
  rw [World.size_alloc] at hP
  have hB := ((Below.refl w.heap.size w).alloc (Nat.le_refl _) (.cells #[.bool false, .bool false, .int .i64 0, .int .i64 0, .int .i64 0, .int .i64 0] 72)).alloc (by simp) (.cells #[.bool false, .bool false, .int .i64 0, .int .i64 0, .int .i64 0, .int .i64 0] 72)
  have hz : w.heap.size + 2 ≤ ((w.alloc (.cells #[.bool false, .bool false, .int .i64 0, .int .i64 0, .int .i64 0, .int .i64 0] 72)).alloc (.cells #[.bool false, .bool false, .int .i64 0, .int .i64 0, .int .i64 0, .int .i64 0] 72)).heap.size := by simp
  generalize (w.alloc (.cells #[.bool false, .bool false, .int .i64 0, .int .i64 0, .int .i64 0, .int .i64 0] 72)).alloc (.cells #[.bool false, .bool false, .int .i64 0, .int .i64 0, .int .i64 0, .int .i64 0] 72) = w1 at hR hP hB hz ⊢
  refine (strings_Split.calls a0 ⟨#[32]⟩ (splitS a0 ⟨#[32]⟩) w1 (HE.out.below hB) (by unfold strings_Split.f; rw [if_pos ⟨Nat.le_refl _, by have := HSZ.out; omega⟩])).mono ?_
  rintro e w2 ⟨v14, rfl, ho, hb⟩
  generalize hws : splitS a0 ⟨#[32]⟩ = ws at ho HSP
  have HX := Aside0.mk (show XI w v14 ws xzero w2 from ⟨(hb.block _ (by omega)).trans hP, (hb.block _ (by omega)).trans hR, Kd.R_lower ho hB.size, below_then hB hB.size hb⟩)
  have HWS := Aside0.mk hws
  obtain ⟨A, c, rfl, hle⟩ := Kd.R_reads ho
  have hlen : ws.length ≤ 1000000 := by have := HSP.out.2.1; have := HSZ.out; omega
  have HLE := Aside0.mk hle.1
  clear hR hP hB hz ho hb hws hle
  go_wp2_with (fail)
  go_loopw [6, 7, 8, 9, 10, 11, 12, 16] (fun v6 v7 v8 v9 v10 v11 v12 v16 wr => ∃ i : Nat, i ≤ ws.length ∧ v16 = .int .i64 (i : Int) ∧ Aside0 (XI w (.slice A ws.length c) ws ((ws.take i).foldl xstep xzero) wr)) (fun v6 v7 v8 v9 v10 v11 v12 v16 _ => ws.length - (intOf v16).toNat)
  case atStart =>
    exact ⟨0, Nat.zero_le _, rfl, HX⟩
  case round =>
    clear HX
    obtain ⟨i, hi, rfl, HX⟩ := hrel
    by_cases hlt : i < ws.length
    · obtain ⟨ad, rfl, y0⟩ := str_at (Kd.R_reads' HX.out.2.2.1).2.2 i hlt
      have HST := Aside0.mk (show (ws.take (i + 1)).foldl xstep xzero = xstep ((ws.take i).foldl xstep xzero) (ws.getD i ⟨#[]⟩) by rw [take_str ws i hlt, List.foldl_append]; rfl)
      have hsz : (ws.getD i ⟨#[]⟩).size ≤ 900000 := by
        have := HSP.out.2.2 (ws.getD i ⟨#[]⟩) (by rw [List.getD_eq_getElem?_getD, List.getElem?_eq_getElem hlt]; exact List.getElem_mem hlt)
        have := HSZ.out
        omega
      generalize ws.getD i ⟨#[]⟩ = wd at y0 HST hsz
      generalize (ws.take i).foldl xstep xzero = p at HX HST
      have hszb := Nat.le_trans (cutB_size wd 61) hsz
      have hcut := strings_Cut.calls wd ⟨#[61]⟩ (cutA wd 61) (cutB wd 61) (cutHas wd 61) wr (by unfold strings_Cut.f; rw [if_pos ⟨rfl, by omega⟩]; rfl)
      have HCUT := Aside0.mk hcut
      have hwr : wrap64 ((i : Int) + 1) = ((i + 1 : Nat) : Int) := by unfold wrap64; omega
      have HWR := Aside0.mk hwr
      clear hcut hwr
      go_wp2_with (fail)
      refine HCUT.out.mono ?_
      rintro e w3 ⟨rfl, hd⟩
      have HX3 := Aside0.mk (XI_below HX.out hd.below)
      clear HX HCUT hd y0
      cases hn : atoN (cutB wd 61) with
      | some v =>
        have HN := Aside0.mk hn
        clear hn
        go_wp2_with (fail)
        refine (atoi_ok (cutB wd 61) (by omega) v HN.out _).mono ?_
        rintro e w4 ⟨rfl, hb⟩
        have HX4 := Aside0.mk (XI_below HX3.out hb)
        clear HX3 hb
        cases hi2 : nameIdx (cutA wd 61) with
        | some idx =>
          have HI := Aside0.mk hi2
          clear hi2
          obtain ⟨⟨q0, q1, q2, q3, q4, q5⟩, f0, f1, f2, f3, f4, f5⟩ := six_cell HX4.out.1
          cases hh : cutHas wd 61 with
          | true =>
            have HXP := Aside0.mk (show xstep p wd = p.set idx v by unfold xstep xpair; rw [hh, if_pos rfl, HN.out, HI.out]; rfl)
            clear hh
            rcases nameIdx_in HI.out with rfl | rfl | rfl | rfl
            all_goals
              go_wp2_with (go_at_call 76; refine (named_any (w.heap.size + 1) (cutA wd 61) _).mono ?_; rintro e w' ⟨rfl, rfl⟩; rw [HI.out, Option.map_some])
              try rw [HWR.out]
              exact ⟨⟨i + 1, by omega, by first | rfl | (congr 1), ⟨by rw [HST.out, HXP.out]; exact XI_num HX4.out (by omega)⟩⟩, by simp only [intOf]; omega⟩
          | false =>
            have HXP := Aside0.mk (show xpair wd = none by unfold xpair; rw [hh]; rfl)
            clear hh
            by_cases hw1 : wd = xwide
            · have hc1 : (wd.toList == [87, 73, 68, 69]) = true := by rw [hw1, Go.ByteArray.toList_eq]; rfl
              have HXS := Aside0.mk (show xstep p wd = { p with wd := true } by unfold xstep; rw [HXP.out]; simp only; rw [if_pos hw1])
              clear hw1 HXP
              go_wp2_with (go_at_call 76; refine (named_any (w.heap.size + 1) (cutA wd 61) _).mono ?_; rintro e w' ⟨rfl, rfl⟩; rw [HI.out, Option.map_some])
              try rw [HWR.out]
              exact ⟨⟨i + 1, by omega, by first | rfl | (congr 1), ⟨by rw [HST.out, HXS.out]; exact XI_wd HX4.out⟩⟩, by simp only [intOf]; omega⟩
            · have hc1 : (wd.toList == [87, 73, 68, 69]) = false := ba_ne (l := [87, 73, 68, 69]) hw1
              by_cases hw2 : wd = xsrej
              · have hc2 : (wd.toList == [83, 82, 69, 74]) = true := by rw [hw2, Go.ByteArray.toList_eq]; rfl
                have HXS := Aside0.mk (show xstep p wd = { p with sr := true } by unfold xstep; rw [HXP.out]; simp only; rw [if_neg hw1, if_pos hw2])
                clear hw1 hw2 HXP
                go_wp2_with (go_at_call 76; refine (named_any (w.heap.size + 1) (cutA wd 61) _).mono ?_; rintro e w' ⟨rfl, rfl⟩; rw [HI.out, Option.map_some])
                try rw [HWR.out]
                exact ⟨⟨i + 1, by omega, by first | rfl | (congr 1), ⟨by rw [HST.out, HXS.out]; exact XI_sr HX4.out⟩⟩, by simp only [intOf]; omega⟩
              · have hc2 : (wd.toList == [83, 82, 69, 74]) = false := ba_ne (l := [83, 82, 69, 74]) hw2
                have HXS := Aside0.mk (show xstep p wd = p by unfold xstep; rw [HXP.out]; simp only; rw [if_neg hw1, if_neg hw2])
                clear hw1 hw2 HXP
                go_wp2_with (go_at_call 76; refine (named_any (w.heap.size + 1) (cutA wd 61) _).mono ?_; rintro e w' ⟨rfl, rfl⟩; rw [HI.out, Option.map_some])
                try rw [HWR.out]
                exact ⟨⟨i + 1, by omega, by first | rfl | (congr 1), ⟨by rw [HST.out, HXS.out]; exact HX4.out⟩⟩, by simp only [intOf]; omega⟩
        | none =>
          have HI := Aside0.mk hi2
          clear hi2
          obtain ⟨⟨q0, q1, q2, q3, q4, q5⟩, f0, f1, f2, f3, f4, f5⟩ := six_cell HX4.out.1
          have HXP := Aside0.mk (show xpair wd = none by unfold xpair; cases cutHas wd 61 <;> simp [HN.out, HI.out])
          cases hh : cutHas wd 61
          all_goals
            clear hh
            by_cases hw1 : wd = xwide
            · have hc1 : (wd.toList == [87, 73, 68, 69]) = true := by rw [hw1, Go.ByteArray.toList_eq]; rfl
              have HXS := Aside0.mk (show xstep p wd = { p with wd := true } by unfold xstep; rw [HXP.out]; simp only; rw [if_pos hw1])
              clear hw1 HXP
              go_wp2_with (go_at_call 76; refine (named_any (w.heap.size + 1) (cutA wd 61) _).mono ?_; rintro e w' ⟨rfl, rfl⟩; rw [HI.out, Option.map_none])
              try rw [HWR.out]
              exact ⟨⟨i + 1, by omega, by first | rfl | (congr 1), ⟨by rw [HST.out, HXS.out]; exact XI_wd HX4.out⟩⟩, by simp only [intOf]; omega⟩
            · have hc1 : (wd.toList == [87, 73, 68, 69]) = false := ba_ne (l := [87, 73, 68, 69]) hw1
              by_cases hw2 : wd = xsrej
              · have hc2 : (wd.toList == [83, 82, 69, 74]) = true := by rw [hw2, Go.ByteArray.toList_eq]; rfl
                have HXS := Aside0.mk (show xstep p wd = { p with sr := true } by unfold xstep; rw [HXP.out]; simp only; rw [if_neg hw1, if_pos hw2])
                clear hw1 hw2 HXP
                go_wp2_with (go_at_call 76; refine (named_any (w.heap.size + 1) (cutA wd 61) _).mono ?_; rintro e w' ⟨rfl, rfl⟩; rw [HI.out, Option.map_none])
                try rw [HWR.out]
                exact ⟨⟨i + 1, by omega, by first | rfl | (congr 1), ⟨by rw [HST.out, HXS.out]; exact XI_sr HX4.out⟩⟩, by simp only [intOf]; omega⟩
              · have hc2 : (wd.toList == [83, 82, 69, 74]) = false := ba_ne (l := [83, 82, 69, 74]) hw2
                have HXS := Aside0.mk (show xstep p wd = p by unfold xstep; rw [HXP.out]; simp only; rw [if_neg hw1, if_neg hw2])
                clear hw1 hw2 HXP
                go_wp2_with (go_at_call 76; refine (named_any (w.heap.size + 1) (cutA wd 61) _).mono ?_; rintro e w' ⟨rfl, rfl⟩; rw [HI.out, Option.map_none])
                try rw [HWR.out]
                exact ⟨⟨i + 1, by omega, by first | rfl | (congr 1), ⟨by rw [HST.out, HXS.out]; exact HX4.out⟩⟩, by simp only [intOf]; omega⟩
      | none =>
        have HN := Aside0.mk hn
        clear hn
        go_wp2_with (fail)
        refine (atoi_no (cutB wd 61) (by omega) HN.out _ (HE.out.below HX3.out.2.2.2)).mono ?_
        rintro e w4 ⟨v, N, rfl, hb⟩
        have HX4 := Aside0.mk (XI_below HX3.out hb)
        clear HX3 hb
        obtain ⟨⟨q0, q1, q2, q3, q4, q5⟩, f0, f1, f2, f3, f4, f5⟩ := six_cell HX4.out.1
        have HXP := Aside0.mk (show xpair wd = none by unfold xpair; cases cutHas wd 61 <;> simp [HN.out])
        cases hh : cutHas wd 61
        all_goals
          clear hh
          by_cases hw1 : wd = xwide
          · have hc1 : (wd.toList == [87, 73, 68, 69]) = true := by rw [hw1, Go.ByteArray.toList_eq]; rfl
            have HXS := Aside0.mk (show xstep p wd = { p with wd := true } by unfold xstep; rw [HXP.out]; simp only; rw [if_pos hw1])
            clear hw1 HXP
            go_wp2_with (go_at_call 76; refine (named_any (w.heap.size + 1) (cutA wd 61) _).mono ?_; rintro e w' ⟨rfl, rfl⟩; skip)
            try rw [HWR.out]
            exact ⟨⟨i + 1, by omega, by first | rfl | (congr 1), ⟨by rw [HST.out, HXS.out]; exact XI_wd HX4.out⟩⟩, by simp only [intOf]; omega⟩
          · have hc1 : (wd.toList == [87, 73, 68, 69]) = false := ba_ne (l := [87, 73, 68, 69]) hw1
            by_cases hw2 : wd = xsrej
            · have hc2 : (wd.toList == [83, 82, 69, 74]) = true := by rw [hw2, Go.ByteArray.toList_eq]; rfl
              have HXS := Aside0.mk (show xstep p wd = { p with sr := true } by unfold xstep; rw [HXP.out]; simp only; rw [if_neg hw1, if_pos hw2])
              clear hw1 hw2 HXP
              go_wp2_with (go_at_call 76; refine (named_any (w.heap.size + 1) (cutA wd 61) _).mono ?_; rintro e w' ⟨rfl, rfl⟩; skip)
              try rw [HWR.out]
              exact ⟨⟨i + 1, by omega, by first | rfl | (congr 1), ⟨by rw [HST.out, HXS.out]; exact XI_sr HX4.out⟩⟩, by simp only [intOf]; omega⟩
            · have hc2 : (wd.toList == [83, 82, 69, 74]) = false := ba_ne (l := [83, 82, 69, 74]) hw2
              have HXS := Aside0.mk (show xstep p wd = p by unfold xstep; rw [HXP.out]; simp only; rw [if_neg hw1, if_neg hw2])
              clear hw1 hw2 HXP
              go_wp2_with (go_at_call 76; refine (named_any (w.heap.size + 1) (cutA wd 61) _).mono ?_; rintro e w' ⟨rfl, rfl⟩; skip)
              try rw [HWR.out]
              exact ⟨⟨i + 1, by omega, by first | rfl | (congr 1), ⟨by rw [HST.out, HXS.out]; exact HX4.out⟩⟩, by simp only [intOf]; omega⟩
    · obtain rfl : i = ws.length := by omega
      have hfin : (ws.take ws.length).foldl xstep xzero = xread a0 := by rw [List.take_length, ← HWS.out]; rfl
      rw [hfin] at HX
      clear hfin hi hlt
      generalize xread a0 = p at HX HR_
      obtain ⟨⟨q0, q1, q2, q3, q4, q5⟩, _⟩ := six_cell HX.out.1
      obtain ⟨⟨z0, z1, z2, z3, z4, z5⟩, f0, f1, f2, f3, f4, f5⟩ := six_cell HX.out.2.1
      have hr := HR_.out
      by_cases ha : a0 = ⟨#[]⟩
      · rw [if_pos ha] at hr
        simp only [Option.some.injEq, Prod.mk.injEq] at hr
        obtain ⟨rfl, rfl, rfl, rfl, rfl, rfl, rfl⟩ := hr
        have he : a0.toList = [] := by rw [ha, Go.ByteArray.toList_eq]
        clear ha HR_
        go_wp2_with (fail)
        refine bodyPost_ret (results_ct rfl _ _ w.heap.size 72 #[.bool false, .bool false, .int .i64 0, .int .i64 0, .int .i64 0, .int .i64 0] (0, 0) _ rfl (six_set HX.out.2.1) Tryd.underlying72 rfl (by kernel_rfl)) rfl ?_
        exact ⟨rfl, six_below HX.out.2.2.2 (Nat.le_refl _) _ _ _ _ _ _⟩
      · rw [if_neg ha] at hr
        obtain ⟨tx, htx, hr⟩ := Option.bind_eq_some_iff.1 hr
        have he : (a0.toList == []) = false := ba_ne (l := []) ha
        have he2 : a0.toList.isEmpty = false := by
          cases hl : a0.toList with
          | nil => rw [hl] at he; cases he
          | cons x y => rfl
        have HTX := Aside0.mk htx
        have HR2 := Aside0.mk hr
        clear ha HR_ htx hr
        go_wp2_with (fail)
        refine (xid_Text.calls p.wd p.sr p.n p.k p.t p.m tx wr (HE.out.below HX.out.2.2.2) HTX.out).mono ?_
        rintro e w5 ⟨rfl, hb⟩
        have HX5 := Aside0.mk (XI_below HX.out hb)
        clear HX hb q0 q1 q2 q3 q4 q5 z0 z1 z2 z3 z4 z5 f0 f1 f2 f3 f4 f5
        obtain ⟨⟨q0, q1, q2, q3, q4, q5⟩, _⟩ := six_cell HX5.out.1
        obtain ⟨⟨z0, z1, z2, z3, z4, z5⟩, f0, f1, f2, f3, f4, f5⟩ := six_cell HX5.out.2.1
        have hr := HR2.out
        by_cases ht : tx = a0
        · rw [if_pos ht] at hr
          simp only [Option.some.injEq, Prod.mk.injEq] at hr
          obtain ⟨rfl, rfl, rfl, rfl, rfl, rfl, rfl⟩ := hr
          have hc : (tx.toList == a0.toList) = true := by rw [ht]; simp
          clear ht HR2
          go_wp2_with (fail)
          refine bodyPost_ret (results_ct rfl _ _ w.heap.size 72 #[.bool p.wd, .bool p.sr, .int .i64 p.n, .int .i64 p.k, .int .i64 p.t, .int .i64 p.m] (0, 0) _ rfl (six_set HX5.out.2.1) Tryd.underlying72 rfl (by kernel_rfl)) rfl ?_
          exact ⟨rfl, six_below HX5.out.2.2.2 (Nat.le_refl _) _ _ _ _ _ _⟩
        · rw [if_neg ht] at hr
          simp only [Option.some.injEq, Prod.mk.injEq] at hr
          obtain ⟨rfl, rfl, rfl, rfl, rfl, rfl, rfl⟩ := hr
          have hc : (tx.toList == a0.toList) = false := by
            rw [beq_eq_false_iff_ne]
            intro e
            apply ht
            rw [Go.ByteArray.toList_eq, Go.ByteArray.toList_eq] at e
            obtain ⟨x⟩ := tx
            obtain ⟨y⟩ := a0
            congr 1
            exact Array.ext' e
          clear ht HR2
          go_wp2_with (fail)
          refine bodyPost_ret (results_ct rfl _ _ w.heap.size 72 #[.bool false, .bool false, .int .i64 0, .int .i64 0, .int .i64 0, .int .i64 0] (0, 0) _ rfl (six_set HX5.out.2.1) Tryd.underlying72 rfl (by kernel_rfl)) rfl ?_
          exact ⟨rfl, six_below HX5.out.2.2.2 (Nat.le_refl _) _ _ _ _ _ _⟩
end Go.Proofs.YtpmieapgbdbabaaDoor.QAll
end

section
/- Walks, written by a program of this session (wip/pp): a Go function comes to what the Lean function beside it tells. -/
namespace Go.Proofs.YtpmieapgbdbabaaDoor.QAll
open Go.RowKit Go.Proofs.YtpmieapgbdbabaaDoorW.PrintWords Go.Proofs.YtpmieapgbdbabaaDoorW.PrintLast Go.Proofs.YtpmieapgbdbabaaDoorW.PrintMore
attribute [local go_sem] max2_int min2_int max_two min_two max_three min_three max_four min_four
set_option linter.unusedVariables false
set_option linter.unusedSimpArgs false

attribute [local go_sem high] eqA72
def squelchlaw08_XidTexts.f (k : Nat) (a0_0 : Bool) (a0_1 : Bool) (a0_2 : Int) (a0_3 : Int) (a0_4 : Int) (a0_5 : Int) : Option (Bool) := (squelchlaw08_awake.f k).bind fun t584 => (if t584 = true then ((xid_Text.f a0_0 a0_1 a0_2 a0_3 a0_4 a0_5).bind fun t585 => ((squelchref08_Right.f k a0_0 a0_1 a0_2 a0_3 a0_4 a0_5).bind fun t586 => (if t586 = true then ((xid_Parse.f t585).bind fun bt587 => ((squelchref08_Text.f k a0_0 a0_1 a0_2 a0_3 a0_4 a0_5).bind fun t595 => (if t585.toList = t595.toList then (if bt587.2.2.2.2.2.2 = 0 then (some (bt587.1 == a0_0 && (bt587.2.1 == a0_1 && (bt587.2.2.1 == a0_2 && (bt587.2.2.2.1 == a0_3 && (bt587.2.2.2.2.1 == a0_4 && (bt587.2.2.2.2.2.1 == a0_5))))))) else (some false)) else (some false)))) else (some (t585.toList == ([] : List UInt8)))))) else (some false))
set_option maxHeartbeats 8000000 in
set_option maxRecDepth 100000 in
theorem squelchlaw08_XidTexts.calls (k : Nat) (a0_0 : Bool) (a0_1 : Bool) (a0_2 : Int) (a0_3 : Int) (a0_4 : Int) (a0_5 : Int) (r : Bool) (w : World) (hE_ : EnvW w) (hT_ : r = true) (h : squelchlaw08_XidTexts.f k a0_0 a0_1 a0_2 a0_3 a0_4 a0_5 = some r) :
  Calls Tryd.prog 10 #[.agg #[.bool a0_0, .bool a0_1, .int .i64 a0_2, .int .i64 a0_3, .int .i64 a0_4, .int .i64 a0_5]] w fun e w' => e = .returned (.bool r) ∧ Below w.heap.size w w' := by
 have hu72 := Tryd.underlying72
 have HB := Aside0.mk (Below.refl w.heap.size w)
 have HE := Aside0.mk hE_
 clear hE_
 have HT_ := Aside0.mk hT_
 clear hT_
 have H : ((squelchlaw08_awake.f k).bind fun t584 => (if t584 = true then ((xid_Text.f a0_0 a0_1 a0_2 a0_3 a0_4 a0_5).bind fun t585 => ((squelchref08_Right.f k a0_0 a0_1 a0_2 a0_3 a0_4 a0_5).bind fun t586 => (if t586 = true then ((xid_Parse.f t585).bind fun bt587 => ((squelchref08_Text.f k a0_0 a0_1 a0_2 a0_3 a0_4 a0_5).bind fun t595 => (if t585.toList = t595.toList then (if bt587.2.2.2.2.2.2 = 0 then (some (bt587.1 == a0_0 && (bt587.2.1 == a0_1 && (bt587.2.2.1 == a0_2 && (bt587.2.2.2.1 == a0_3 && (bt587.2.2.2.2.1 == a0_4 && (bt587.2.2.2.2.2.1 == a0_5))))))) else (some false)) else (some false)))) else (some (t585.toList == ([] : List UInt8)))))) else (some false))) = some r := h
 clear h
 replace H := Option.bind_eq_some_iff.mp H
 obtain ⟨t584, A20, H⟩ := H
 replace H : (if t584 = true then ((xid_Text.f a0_0 a0_1 a0_2 a0_3 a0_4 a0_5).bind fun t585 => ((squelchref08_Right.f k a0_0 a0_1 a0_2 a0_3 a0_4 a0_5).bind fun t586 => (if t586 = true then ((xid_Parse.f t585).bind fun bt587 => ((squelchref08_Text.f k a0_0 a0_1 a0_2 a0_3 a0_4 a0_5).bind fun t595 => (if t585.toList = t595.toList then (if bt587.2.2.2.2.2.2 = 0 then (some (bt587.1 == a0_0 && (bt587.2.1 == a0_1 && (bt587.2.2.1 == a0_2 && (bt587.2.2.2.1 == a0_3 && (bt587.2.2.2.2.1 == a0_4 && (bt587.2.2.2.2.2.1 == a0_5))))))) else (some false)) else (some false)))) else (some (t585.toList == ([] : List UInt8)))))) else (some false)) = some r := H
 have A2 := Aside0.mk A20
 clear A20
 by_cases c3 : t584 = true
 ·subst c3
  have H1 : ((xid_Text.f a0_0 a0_1 a0_2 a0_3 a0_4 a0_5).bind fun t585 => ((squelchref08_Right.f k a0_0 a0_1 a0_2 a0_3 a0_4 a0_5).bind fun t586 => (if t586 = true then ((xid_Parse.f t585).bind fun bt587 => ((squelchref08_Text.f k a0_0 a0_1 a0_2 a0_3 a0_4 a0_5).bind fun t595 => (if t585.toList = t595.toList then (if bt587.2.2.2.2.2.2 = 0 then (some (bt587.1 == a0_0 && (bt587.2.1 == a0_1 && (bt587.2.2.1 == a0_2 && (bt587.2.2.2.1 == a0_3 && (bt587.2.2.2.2.1 == a0_4 && (bt587.2.2.2.2.2.1 == a0_5))))))) else (some false)) else (some false)))) else (some (t585.toList == ([] : List UInt8)))))) = some r := by rw [if_pos rfl] at H; exact H
  clear H
  have H := H1
  clear H1
  replace H := Option.bind_eq_some_iff.mp H
  obtain ⟨t585, A40, H⟩ := H
  replace H : ((squelchref08_Right.f k a0_0 a0_1 a0_2 a0_3 a0_4 a0_5).bind fun t586 => (if t586 = true then ((xid_Parse.f t585).bind fun bt587 => ((squelchref08_Text.f k a0_0 a0_1 a0_2 a0_3 a0_4 a0_5).bind fun t595 => (if t585.toList = t595.toList then (if bt587.2.2.2.2.2.2 = 0 then (some (bt587.1 == a0_0 && (bt587.2.1 == a0_1 && (bt587.2.2.1 == a0_2 && (bt587.2.2.2.1 == a0_3 && (bt587.2.2.2.2.1 == a0_4 && (bt587.2.2.2.2.2.1 == a0_5))))))) else (some false)) else (some false)))) else (some (t585.toList == ([] : List UInt8))))) = some r := H
  have A4 := Aside0.mk A40
  clear A40
  replace H := Option.bind_eq_some_iff.mp H
  obtain ⟨t586, A50, H⟩ := H
  replace H : (if t586 = true then ((xid_Parse.f t585).bind fun bt587 => ((squelchref08_Text.f k a0_0 a0_1 a0_2 a0_3 a0_4 a0_5).bind fun t595 => (if t585.toList = t595.toList then (if bt587.2.2.2.2.2.2 = 0 then (some (bt587.1 == a0_0 && (bt587.2.1 == a0_1 && (bt587.2.2.1 == a0_2 && (bt587.2.2.2.1 == a0_3 && (bt587.2.2.2.2.1 == a0_4 && (bt587.2.2.2.2.2.1 == a0_5))))))) else (some false)) else (some false)))) else (some (t585.toList == ([] : List UInt8)))) = some r := H
  have A5 := Aside0.mk A50
  clear A50
  by_cases c6 : t586 = true
  ·subst c6
   have H1 : ((xid_Parse.f t585).bind fun bt587 => ((squelchref08_Text.f k a0_0 a0_1 a0_2 a0_3 a0_4 a0_5).bind fun t595 => (if t585.toList = t595.toList then (if bt587.2.2.2.2.2.2 = 0 then (some (bt587.1 == a0_0 && (bt587.2.1 == a0_1 && (bt587.2.2.1 == a0_2 && (bt587.2.2.2.1 == a0_3 && (bt587.2.2.2.2.1 == a0_4 && (bt587.2.2.2.2.2.1 == a0_5))))))) else (some false)) else (some false)))) = some r := by rw [if_pos rfl] at H; exact H
   clear H
   have H := H1
   clear H1
   replace H := Option.bind_eq_some_iff.mp H
   obtain ⟨⟨t587, t588, t589, t590, t591, t592, t593⟩, A70, H⟩ := H
   replace H : ((squelchref08_Text.f k a0_0 a0_1 a0_2 a0_3 a0_4 a0_5).bind fun t595 => (if t585.toList = t595.toList then (if t593 = 0 then (some (t587 == a0_0 && (t588 == a0_1 && (t589 == a0_2 && (t590 == a0_3 && (t591 == a0_4 && (t592 == a0_5))))))) else (some false)) else (some false))) = some r := H
   have A7 := Aside0.mk A70
   clear A70
   replace H := Option.bind_eq_some_iff.mp H
   obtain ⟨t595, A80, H⟩ := H
   replace H : (if t585.toList = t595.toList then (if t593 = 0 then (some (t587 == a0_0 && (t588 == a0_1 && (t589 == a0_2 && (t590 == a0_3 && (t591 == a0_4 && (t592 == a0_5))))))) else (some false)) else (some false)) = some r := H
   have A8 := Aside0.mk A80
   clear A80
   by_cases c9 : t585.toList = t595.toList
   ·rw [if_pos c9] at H
    have c9b0 : (t585.toList == t595.toList) = true := beq_iff_eq.mpr c9
    have c9b1 : (t585.toList != t595.toList) = false := bne_eq_false_iff_eq.mpr c9
    clear c9
    by_cases c10 : t593 = 0
    ·rw [if_pos c10] at H
     have c10b0 : (t593 == 0) = true := beq_iff_eq.mpr c10
     have c10b1 : (t593 != 0) = false := bne_eq_false_iff_eq.mpr c10
     clear c10
     obtain rfl := Option.some.inj H
     go_enter Tryd.func10, Tryd.ntmps10
     go_wp2_with (first | ((with_reducible refine gate_dst (N := 1) rfl ?_); refine box_event ?hg (N := 1) ?hd (cs := #[.bool a0_0, .bool a0_1, .int .i64 a0_2, .int .i64 a0_3, .int .i64 a0_4, .int .i64 a0_5]) (t := 72) ?hr ?_; (case hd => rfl); (case hg => rfl); (case hr => first | (go_simp; done) | (go_simp; rfl)); intro gb583 hg w11 hbox hb; have n0_ := Aside0.mk (below_step (by repeat (first | (with_reducible first | exact HB.out | apply below_alloc | apply pw_below_drewN | apply below_drew1) | exact HB.out)) hb); have n1_ := Aside0.mk (hbox); have n2_ := Aside0.mk ((by rw [hg]; exact (below_size (by repeat (first | (with_reducible first | exact HB.out | apply below_alloc | apply pw_below_drewN | apply below_drew1) | exact HB.out))) : w.heap.size ≤ gb583)); have n3_ := Aside0.mk ((by rw [hg]; exact (below_size (by repeat (first | (with_reducible first | exact HB.out | apply below_alloc | apply pw_below_drewN | apply below_drew1) | exact HB.out))) : w.heap.size ≤ gb583)); clear HB; have HB := n0_; have BK583 := n1_; have GW583 := n2_; have GE583 := n3_; clear n0_ n1_ n2_ n3_; clear hb hbox hg) | ((with_reducible refine gate_callee (f := 46) rfl ?_); refine goesL_ (some 6) rfl rfl Tryd.func46 (by kernel_rfl) rfl #[] rfl (by (try simp only [List.map_toArray, List.map_cons, List.map_nil]); first | done | rfl | (simp only [List.length_drop, List.length_take]; rfl)) ?_; (with_reducible refine (squelchlaw08_awake.calls k  true _ A2.out).mono ?_); rintro e w12 ⟨rfl, hb⟩; refine ⟨_, rfl, ?_⟩; have n0_ := Aside0.mk (blk_below (g := gb583) (o := .cells #[.bool a0_0, .bool a0_1, .int .i64 a0_2, .int .i64 a0_3, .int .i64 a0_4, .int .i64 a0_5] 72 (0, 0)) (by (with_reducible repeat (first | refine blk_drewN ?_ _ | refine blk_drew ?_ | refine blk_alloc ?_ _)); exact BK583.out) hb); have n1_ := Aside0.mk (below_step (by repeat (first | (with_reducible first | exact HB.out | apply below_alloc | apply pw_below_drewN | apply below_drew1 | refine below_set ?_ GE583.out) | exact HB.out)) hb); clear BK583; clear HB; have BK583 := n0_; have HB := n1_; clear n0_ n1_; (try clear hb); (try clear hb2); (try clear hk); (try clear hi); have hcz13_0 : w12.cell? ⟨gb583, 0, none⟩ = some (.bool a0_0) := (blk_cell BK583.out 0).trans rfl; have hcz13_1 : w12.cell? ⟨gb583, 1, none⟩ = some (.bool a0_1) := (blk_cell BK583.out 1).trans rfl; have hcz13_2 : w12.cell? ⟨gb583, 2, none⟩ = some (.int .i64 a0_2) := (blk_cell BK583.out 2).trans rfl; have hcz13_3 : w12.cell? ⟨gb583, 3, none⟩ = some (.int .i64 a0_3) := (blk_cell BK583.out 3).trans rfl; have hcz13_4 : w12.cell? ⟨gb583, 4, none⟩ = some (.int .i64 a0_4) := (blk_cell BK583.out 4).trans rfl; have hcz13_5 : w12.cell? ⟨gb583, 5, none⟩ = some (.int .i64 a0_5) := (blk_cell BK583.out 5).trans rfl; have hfz13_0 := blk_frozen BK583.out 0; have hfz13_1 := blk_frozen BK583.out 1; have hfz13_2 := blk_frozen BK583.out 2; have hfz13_3 := blk_frozen BK583.out 3; have hfz13_4 := blk_frozen BK583.out 4; have hfz13_5 := blk_frozen BK583.out 5) | ((with_reducible refine gate_callee (f := 47) rfl ?_); refine goesL_ (some 9) rfl rfl Tryd.func47 (by kernel_rfl) rfl #[.agg #[.bool a0_0, .bool a0_1, .int .i64 a0_2, .int .i64 a0_3, .int .i64 a0_4, .int .i64 a0_5]] rfl (by (try simp only [List.map_toArray, List.map_cons, List.map_nil]); first | done | rfl | (simp only [List.length_drop, List.length_take]; rfl)) ?_; (with_reducible refine (xid_Text.calls a0_0 a0_1 a0_2 a0_3 a0_4 a0_5 t585 _ ?side1 A4.out).mono ?_); (case side1 => exact EnvW.below HE.out (by repeat (first | (with_reducible first | exact HB.out | apply below_alloc | apply pw_below_drewN | apply below_drew1 | refine below_set ?_ GE583.out) | exact HB.out))); rintro e w14 ⟨rfl, hb⟩; refine ⟨_, rfl, ?_⟩; have n0_ := Aside0.mk (blk_below (g := gb583) (o := .cells #[.bool a0_0, .bool a0_1, .int .i64 a0_2, .int .i64 a0_3, .int .i64 a0_4, .int .i64 a0_5] 72 (0, 0)) (by (with_reducible repeat (first | refine blk_drewN ?_ _ | refine blk_drew ?_ | refine blk_alloc ?_ _)); exact BK583.out) hb); have n1_ := Aside0.mk (below_step (by repeat (first | (with_reducible first | exact HB.out | apply below_alloc | apply pw_below_drewN | apply below_drew1 | refine below_set ?_ GE583.out) | exact HB.out)) hb); clear BK583; clear HB; have BK583 := n0_; have HB := n1_; clear n0_ n1_; (try clear hb); (try clear hb2); (try clear hk); (try clear hi); have hcz15_0 : w14.cell? ⟨gb583, 0, none⟩ = some (.bool a0_0) := (blk_cell BK583.out 0).trans rfl; have hcz15_1 : w14.cell? ⟨gb583, 1, none⟩ = some (.bool a0_1) := (blk_cell BK583.out 1).trans rfl; have hcz15_2 : w14.cell? ⟨gb583, 2, none⟩ = some (.int .i64 a0_2) := (blk_cell BK583.out 2).trans rfl; have hcz15_3 : w14.cell? ⟨gb583, 3, none⟩ = some (.int .i64 a0_3) := (blk_cell BK583.out 3).trans rfl; have hcz15_4 : w14.cell? ⟨gb583, 4, none⟩ = some (.int .i64 a0_4) := (blk_cell BK583.out 4).trans rfl; have hcz15_5 : w14.cell? ⟨gb583, 5, none⟩ = some (.int .i64 a0_5) := (blk_cell BK583.out 5).trans rfl; have hfz15_0 := blk_frozen BK583.out 0; have hfz15_1 := blk_frozen BK583.out 1; have hfz15_2 := blk_frozen BK583.out 2; have hfz15_3 := blk_frozen BK583.out 3; have hfz15_4 := blk_frozen BK583.out 4; have hfz15_5 := blk_frozen BK583.out 5) | ((with_reducible refine gate_callee (f := 48) rfl ?_); refine goesL_ (some 11) rfl rfl Tryd.func48 (by kernel_rfl) rfl #[.agg #[.bool a0_0, .bool a0_1, .int .i64 a0_2, .int .i64 a0_3, .int .i64 a0_4, .int .i64 a0_5]] rfl (by (try simp only [List.map_toArray, List.map_cons, List.map_nil]); first | done | rfl | (simp only [List.length_drop, List.length_take]; rfl)) ?_; (with_reducible refine (squelchref08_Right.calls k a0_0 a0_1 a0_2 a0_3 a0_4 a0_5 true _ A5.out).mono ?_); rintro e w16 ⟨rfl, hb⟩; refine ⟨_, rfl, ?_⟩; have n0_ := Aside0.mk (blk_below (g := gb583) (o := .cells #[.bool a0_0, .bool a0_1, .int .i64 a0_2, .int .i64 a0_3, .int .i64 a0_4, .int .i64 a0_5] 72 (0, 0)) (by (with_reducible repeat (first | refine blk_drewN ?_ _ | refine blk_drew ?_ | refine blk_alloc ?_ _)); exact BK583.out) hb); have n1_ := Aside0.mk (below_step (by repeat (first | (with_reducible first | exact HB.out | apply below_alloc | apply pw_below_drewN | apply below_drew1 | refine below_set ?_ GE583.out) | exact HB.out)) hb); clear BK583; clear HB; have BK583 := n0_; have HB := n1_; clear n0_ n1_; (try clear hb); (try clear hb2); (try clear hk); (try clear hi)) | ((with_reducible refine gate_callee (f := 49) rfl ?_); refine goesL_ (some 17) rfl rfl Tryd.func49 (by kernel_rfl) rfl #[.string t585] rfl (by (try simp only [List.map_toArray, List.map_cons, List.map_nil]); first | done | rfl | (simp only [List.length_drop, List.length_take]; rfl)) ?_; (with_reducible refine (xid_Parse.calls t585 t587 t588 t589 t590 t591 t592 t593 _ ?side1 A7.out).mono ?_); (case side1 => exact EnvW.below HE.out (by repeat (first | (with_reducible first | exact HB.out | apply below_alloc | apply pw_below_drewN | apply below_drew1 | refine below_set ?_ GE583.out) | exact HB.out))); rintro e w17 ⟨rfl, hb⟩; refine ⟨_, rfl, ?_⟩; have n0_ := Aside0.mk (blk_below (g := gb583) (o := .cells #[.bool a0_0, .bool a0_1, .int .i64 a0_2, .int .i64 a0_3, .int .i64 a0_4, .int .i64 a0_5] 72 (0, 0)) (by (with_reducible repeat (first | refine blk_drewN ?_ _ | refine blk_drew ?_ | refine blk_alloc ?_ _)); exact BK583.out) hb); have n1_ := Aside0.mk (below_step (by repeat (first | (with_reducible first | exact HB.out | apply below_alloc | apply pw_below_drewN | apply below_drew1 | refine below_set ?_ GE583.out) | exact HB.out)) hb); clear BK583; clear HB; have BK583 := n0_; have HB := n1_; clear n0_ n1_; (try clear hb); (try clear hb2); (try clear hk); (try clear hi)) | ((with_reducible refine gate_dst (N := 4) rfl ?_); refine box_event ?hg (N := 4) ?hd (cs := #[.bool false, .bool false, .int .i64 0, .int .i64 0, .int .i64 0, .int .i64 0]) (t := 72) ?hr ?_; (case hd => rfl); (case hg => rfl); (case hr => first | (go_simp; done) | (go_simp; rfl)); intro gb594 hg w18 hbox hb; have n0_ := Aside0.mk (blk_below (g := gb583) (o := .cells #[.bool a0_0, .bool a0_1, .int .i64 a0_2, .int .i64 a0_3, .int .i64 a0_4, .int .i64 a0_5] 72 (0, 0)) (by (with_reducible repeat (first | refine blk_drewN ?_ _ | refine blk_drew ?_ | refine blk_alloc ?_ _)); exact BK583.out) hb); have n1_ := Aside0.mk (below_step (by repeat (first | (with_reducible first | exact HB.out | apply below_alloc | apply pw_below_drewN | apply below_drew1 | refine below_set ?_ GE583.out) | exact HB.out)) hb); have n2_ := Aside0.mk (hbox); have n3_ := Aside0.mk ((by rw [hg]; exact (below_size (by repeat (first | (with_reducible first | exact HB.out | apply below_alloc | apply pw_below_drewN | apply below_drew1 | refine below_set ?_ GE583.out) | exact HB.out))) : w.heap.size ≤ gb594)); have n4_ := Aside0.mk ((by rw [hg]; exact (below_size (by repeat (first | (with_reducible first | exact HB.out | apply below_alloc | apply pw_below_drewN | apply below_drew1 | refine below_set ?_ GE583.out) | exact HB.out))) : w.heap.size ≤ gb594)); have n5_ := Aside0.mk ((by rw [hg]; exact Nat.ne_of_lt (blk_lt (g := gb583) (o := .cells #[.bool a0_0, .bool a0_1, .int .i64 a0_2, .int .i64 a0_3, .int .i64 a0_4, .int .i64 a0_5] 72 (0, 0)) (by (with_reducible repeat (first | refine blk_drewN ?_ _ | refine blk_drew ?_ | refine blk_alloc ?_ _)); exact BK583.out)) : gb583 ≠ gb594)); have n6_ := Aside0.mk ((by rw [hg]; exact Nat.ne_of_gt (blk_lt (g := gb583) (o := .cells #[.bool a0_0, .bool a0_1, .int .i64 a0_2, .int .i64 a0_3, .int .i64 a0_4, .int .i64 a0_5] 72 (0, 0)) (by (with_reducible repeat (first | refine blk_drewN ?_ _ | refine blk_drew ?_ | refine blk_alloc ?_ _)); exact BK583.out)) : gb594 ≠ gb583)); clear BK583; clear HB; have BK583 := n0_; have HB := n1_; have BK594 := n2_; have GW594 := n3_; have GE594 := n4_; have NB583_594 := n5_; have NB594_583 := n6_; clear n0_ n1_ n2_ n3_ n4_ n5_ n6_; clear hb hbox hg; have hnb19 := NB594_583.out; have hnc19 := NB583_594.out; have hcz20_0 : w18.cell? ⟨gb594, 0, none⟩ = some (.bool false) := (blk_cell BK594.out 0).trans rfl; have hcz20_1 : w18.cell? ⟨gb594, 1, none⟩ = some (.bool false) := (blk_cell BK594.out 1).trans rfl; have hcz20_2 : w18.cell? ⟨gb594, 2, none⟩ = some (.int .i64 0) := (blk_cell BK594.out 2).trans rfl; have hcz20_3 : w18.cell? ⟨gb594, 3, none⟩ = some (.int .i64 0) := (blk_cell BK594.out 3).trans rfl; have hcz20_4 : w18.cell? ⟨gb594, 4, none⟩ = some (.int .i64 0) := (blk_cell BK594.out 4).trans rfl; have hcz20_5 : w18.cell? ⟨gb594, 5, none⟩ = some (.int .i64 0) := (blk_cell BK594.out 5).trans rfl; have hfz20_0 := blk_frozen BK594.out 0; have hfz20_1 := blk_frozen BK594.out 1; have hfz20_2 := blk_frozen BK594.out 2; have hfz20_3 := blk_frozen BK594.out 3; have hfz20_4 := blk_frozen BK594.out 4; have hfz20_5 := blk_frozen BK594.out 5; have hcz21_0 : w18.cell? ⟨gb583, 0, none⟩ = some (.bool a0_0) := (blk_cell BK583.out 0).trans rfl; have hcz21_1 : w18.cell? ⟨gb583, 1, none⟩ = some (.bool a0_1) := (blk_cell BK583.out 1).trans rfl; have hcz21_2 : w18.cell? ⟨gb583, 2, none⟩ = some (.int .i64 a0_2) := (blk_cell BK583.out 2).trans rfl; have hcz21_3 : w18.cell? ⟨gb583, 3, none⟩ = some (.int .i64 a0_3) := (blk_cell BK583.out 3).trans rfl; have hcz21_4 : w18.cell? ⟨gb583, 4, none⟩ = some (.int .i64 a0_4) := (blk_cell BK583.out 4).trans rfl; have hcz21_5 : w18.cell? ⟨gb583, 5, none⟩ = some (.int .i64 a0_5) := (blk_cell BK583.out 5).trans rfl; have hfz21_0 := blk_frozen BK583.out 0; have hfz21_1 := blk_frozen BK583.out 1; have hfz21_2 := blk_frozen BK583.out 2; have hfz21_3 := blk_frozen BK583.out 3; have hfz21_4 := blk_frozen BK583.out 4; have hfz21_5 := blk_frozen BK583.out 5) | ((with_reducible refine gate_callee (f := 50) rfl ?_); refine goesL_ (some 22) rfl rfl Tryd.func50 (by kernel_rfl) rfl #[.agg #[.bool a0_0, .bool a0_1, .int .i64 a0_2, .int .i64 a0_3, .int .i64 a0_4, .int .i64 a0_5]] rfl (by (try simp only [List.map_toArray, List.map_cons, List.map_nil]); first | done | rfl | (simp only [List.length_drop, List.length_take]; rfl)) ?_; (with_reducible refine (squelchref08_Text.calls k a0_0 a0_1 a0_2 a0_3 a0_4 a0_5 t595 _ A8.out).mono ?_); rintro e w22 ⟨rfl, hb⟩; refine ⟨_, rfl, ?_⟩; have n0_ := Aside0.mk (blk_below (g := gb583) (o := .cells #[.bool a0_0, .bool a0_1, .int .i64 a0_2, .int .i64 a0_3, .int .i64 a0_4, .int .i64 a0_5] 72 (0, 0)) (by (with_reducible repeat (first | refine blk_drewN ?_ _ | refine blk_drew ?_ | refine blk_alloc ?_ _)); refine blk_far ?_ NB583_594.out _; (with_reducible repeat (first | refine blk_drewN ?_ _ | refine blk_drew ?_ | refine blk_alloc ?_ _)); refine blk_far ?_ NB583_594.out _; (with_reducible repeat (first | refine blk_drewN ?_ _ | refine blk_drew ?_ | refine blk_alloc ?_ _)); refine blk_far ?_ NB583_594.out _; (with_reducible repeat (first | refine blk_drewN ?_ _ | refine blk_drew ?_ | refine blk_alloc ?_ _)); refine blk_far ?_ NB583_594.out _; (with_reducible repeat (first | refine blk_drewN ?_ _ | refine blk_drew ?_ | refine blk_alloc ?_ _)); refine blk_far ?_ NB583_594.out _; (with_reducible repeat (first | refine blk_drewN ?_ _ | refine blk_drew ?_ | refine blk_alloc ?_ _)); refine blk_far ?_ NB583_594.out _; (with_reducible repeat (first | refine blk_drewN ?_ _ | refine blk_drew ?_ | refine blk_alloc ?_ _)); exact BK583.out) hb); have n1_ := Aside0.mk (blk_below (g := gb594) (o := .cells #[.bool t587, .bool t588, .int .i64 t589, .int .i64 t590, .int .i64 t591, .int .i64 t592] 72 (0, 0)) (by (with_reducible repeat (first | refine blk_drewN ?_ _ | refine blk_drew ?_ | refine blk_alloc ?_ _)); refine blk_put (cs := #[.bool t587, .bool t588, .int .i64 t589, .int .i64 t590, .int .i64 t591, .int .i64 0]) ?_ 5 _ rfl; (with_reducible repeat (first | refine blk_drewN ?_ _ | refine blk_drew ?_ | refine blk_alloc ?_ _)); refine blk_put (cs := #[.bool t587, .bool t588, .int .i64 t589, .int .i64 t590, .int .i64 0, .int .i64 0]) ?_ 4 _ rfl; (with_reducible repeat (first | refine blk_drewN ?_ _ | refine blk_drew ?_ | refine blk_alloc ?_ _)); refine blk_put (cs := #[.bool t587, .bool t588, .int .i64 t589, .int .i64 0, .int .i64 0, .int .i64 0]) ?_ 3 _ rfl; (with_reducible repeat (first | refine blk_drewN ?_ _ | refine blk_drew ?_ | refine blk_alloc ?_ _)); refine blk_put (cs := #[.bool t587, .bool t588, .int .i64 0, .int .i64 0, .int .i64 0, .int .i64 0]) ?_ 2 _ rfl; (with_reducible repeat (first | refine blk_drewN ?_ _ | refine blk_drew ?_ | refine blk_alloc ?_ _)); refine blk_put (cs := #[.bool t587, .bool false, .int .i64 0, .int .i64 0, .int .i64 0, .int .i64 0]) ?_ 1 _ rfl; (with_reducible repeat (first | refine blk_drewN ?_ _ | refine blk_drew ?_ | refine blk_alloc ?_ _)); refine blk_put (cs := #[.bool false, .bool false, .int .i64 0, .int .i64 0, .int .i64 0, .int .i64 0]) ?_ 0 _ rfl; (with_reducible repeat (first | refine blk_drewN ?_ _ | refine blk_drew ?_ | refine blk_alloc ?_ _)); exact BK594.out) hb); have n2_ := Aside0.mk (below_step (by repeat (first | (with_reducible first | exact HB.out | apply below_alloc | apply pw_below_drewN | apply below_drew1 | refine below_set ?_ GE583.out | refine below_set ?_ GE594.out) | exact HB.out)) hb); clear BK583; clear BK594; clear HB; have BK583 := n0_; have BK594 := n1_; have HB := n2_; clear n0_ n1_ n2_; (try clear hb); (try clear hb2); (try clear hk); (try clear hi); have hcz23_0 : w22.cell? ⟨gb594, 0, none⟩ = some (.bool t587) := (blk_cell BK594.out 0).trans rfl; have hcz23_1 : w22.cell? ⟨gb594, 1, none⟩ = some (.bool t588) := (blk_cell BK594.out 1).trans rfl; have hcz23_2 : w22.cell? ⟨gb594, 2, none⟩ = some (.int .i64 t589) := (blk_cell BK594.out 2).trans rfl; have hcz23_3 : w22.cell? ⟨gb594, 3, none⟩ = some (.int .i64 t590) := (blk_cell BK594.out 3).trans rfl; have hcz23_4 : w22.cell? ⟨gb594, 4, none⟩ = some (.int .i64 t591) := (blk_cell BK594.out 4).trans rfl; have hcz23_5 : w22.cell? ⟨gb594, 5, none⟩ = some (.int .i64 t592) := (blk_cell BK594.out 5).trans rfl; have hfz23_0 := blk_frozen BK594.out 0; have hfz23_1 := blk_frozen BK594.out 1; have hfz23_2 := blk_frozen BK594.out 2; have hfz23_3 := blk_frozen BK594.out 3; have hfz23_4 := blk_frozen BK594.out 4; have hfz23_5 := blk_frozen BK594.out 5; have hcz24_0 : w22.cell? ⟨gb583, 0, none⟩ = some (.bool a0_0) := (blk_cell BK583.out 0).trans rfl; have hcz24_1 : w22.cell? ⟨gb583, 1, none⟩ = some (.bool a0_1) := (blk_cell BK583.out 1).trans rfl; have hcz24_2 : w22.cell? ⟨gb583, 2, none⟩ = some (.int .i64 a0_2) := (blk_cell BK583.out 2).trans rfl; have hcz24_3 : w22.cell? ⟨gb583, 3, none⟩ = some (.int .i64 a0_3) := (blk_cell BK583.out 3).trans rfl; have hcz24_4 : w22.cell? ⟨gb583, 4, none⟩ = some (.int .i64 a0_4) := (blk_cell BK583.out 4).trans rfl; have hcz24_5 : w22.cell? ⟨gb583, 5, none⟩ = some (.int .i64 a0_5) := (blk_cell BK583.out 5).trans rfl; have hfz24_0 := blk_frozen BK583.out 0; have hfz24_1 := blk_frozen BK583.out 1; have hfz24_2 := blk_frozen BK583.out 2; have hfz24_3 := blk_frozen BK583.out 3; have hfz24_4 := blk_frozen BK583.out 4; have hfz24_5 := blk_frozen BK583.out 5))
     go_ret
     exact ⟨by first | rfl | (simp [errW_none, errW_some] <;> rfl) | (simp [*, errW_none, errW_some] <;> rfl), by repeat (first | (with_reducible first | exact HB.out | apply below_alloc | apply pw_below_drewN | apply below_drew1 | refine below_set ?_ GE583.out | refine below_set ?_ GE594.out) | exact HB.out)⟩
    ·rw [if_neg c10] at H
     have c10b0 : (t593 == 0) = false := beq_eq_false_iff_ne.mpr c10
     have c10b1 : (t593 != 0) = true := bne_iff_ne.mpr c10
     exact absurd ((Option.some.inj H).trans HT_.out) (by decide)
   ·rw [if_neg c9] at H
    have c9b0 : (t585.toList == t595.toList) = false := beq_eq_false_iff_ne.mpr c9
    have c9b1 : (t585.toList != t595.toList) = true := bne_iff_ne.mpr c9
    exact absurd ((Option.some.inj H).trans HT_.out) (by decide)
  ·replace c6 := Bool.eq_false_iff.mpr c6
   subst c6
   have H1 : (some (t585.toList == ([] : List UInt8))) = some r := by rw [if_neg (show ¬ (false = true) by decide)] at H; exact H
   clear H
   have H := H1
   clear H1
   obtain rfl := Option.some.inj H
   go_enter Tryd.func10, Tryd.ntmps10
   go_wp2_with (first | ((with_reducible refine gate_dst (N := 1) rfl ?_); refine box_event ?hg (N := 1) ?hd (cs := #[.bool a0_0, .bool a0_1, .int .i64 a0_2, .int .i64 a0_3, .int .i64 a0_4, .int .i64 a0_5]) (t := 72) ?hr ?_; (case hd => rfl); (case hg => rfl); (case hr => first | (go_simp; done) | (go_simp; rfl)); intro gb583 hg w25 hbox hb; have n0_ := Aside0.mk (below_step (by repeat (first | (with_reducible first | exact HB.out | apply below_alloc | apply pw_below_drewN | apply below_drew1) | exact HB.out)) hb); have n1_ := Aside0.mk (hbox); have n2_ := Aside0.mk ((by rw [hg]; exact (below_size (by repeat (first | (with_reducible first | exact HB.out | apply below_alloc | apply pw_below_drewN | apply below_drew1) | exact HB.out))) : w.heap.size ≤ gb583)); have n3_ := Aside0.mk ((by rw [hg]; exact (below_size (by repeat (first | (with_reducible first | exact HB.out | apply below_alloc | apply pw_below_drewN | apply below_drew1) | exact HB.out))) : w.heap.size ≤ gb583)); clear HB; have HB := n0_; have BK583 := n1_; have GW583 := n2_; have GE583 := n3_; clear n0_ n1_ n2_ n3_; clear hb hbox hg) | ((with_reducible refine gate_callee (f := 46) rfl ?_); refine goesL_ (some 6) rfl rfl Tryd.func46 (by kernel_rfl) rfl #[] rfl (by (try simp only [List.map_toArray, List.map_cons, List.map_nil]); first | done | rfl | (simp only [List.length_drop, List.length_take]; rfl)) ?_; (with_reducible refine (squelchlaw08_awake.calls k  true _ A2.out).mono ?_); rintro e w26 ⟨rfl, hb⟩; refine ⟨_, rfl, ?_⟩; have n0_ := Aside0.mk (blk_below (g := gb583) (o := .cells #[.bool a0_0, .bool a0_1, .int .i64 a0_2, .int .i64 a0_3, .int .i64 a0_4, .int .i64 a0_5] 72 (0, 0)) (by (with_reducible repeat (first | refine blk_drewN ?_ _ | refine blk_drew ?_ | refine blk_alloc ?_ _)); exact BK583.out) hb); have n1_ := Aside0.mk (below_step (by repeat (first | (with_reducible first | exact HB.out | apply below_alloc | apply pw_below_drewN | apply below_drew1 | refine below_set ?_ GE583.out) | exact HB.out)) hb); clear BK583; clear HB; have BK583 := n0_; have HB := n1_; clear n0_ n1_; (try clear hb); (try clear hb2); (try clear hk); (try clear hi); have hcz27_0 : w26.cell? ⟨gb583, 0, none⟩ = some (.bool a0_0) := (blk_cell BK583.out 0).trans rfl; have hcz27_1 : w26.cell? ⟨gb583, 1, none⟩ = some (.bool a0_1) := (blk_cell BK583.out 1).trans rfl; have hcz27_2 : w26.cell? ⟨gb583, 2, none⟩ = some (.int .i64 a0_2) := (blk_cell BK583.out 2).trans rfl; have hcz27_3 : w26.cell? ⟨gb583, 3, none⟩ = some (.int .i64 a0_3) := (blk_cell BK583.out 3).trans rfl; have hcz27_4 : w26.cell? ⟨gb583, 4, none⟩ = some (.int .i64 a0_4) := (blk_cell BK583.out 4).trans rfl; have hcz27_5 : w26.cell? ⟨gb583, 5, none⟩ = some (.int .i64 a0_5) := (blk_cell BK583.out 5).trans rfl; have hfz27_0 := blk_frozen BK583.out 0; have hfz27_1 := blk_frozen BK583.out 1; have hfz27_2 := blk_frozen BK583.out 2; have hfz27_3 := blk_frozen BK583.out 3; have hfz27_4 := blk_frozen BK583.out 4; have hfz27_5 := blk_frozen BK583.out 5) | ((with_reducible refine gate_callee (f := 47) rfl ?_); refine goesL_ (some 9) rfl rfl Tryd.func47 (by kernel_rfl) rfl #[.agg #[.bool a0_0, .bool a0_1, .int .i64 a0_2, .int .i64 a0_3, .int .i64 a0_4, .int .i64 a0_5]] rfl (by (try simp only [List.map_toArray, List.map_cons, List.map_nil]); first | done | rfl | (simp only [List.length_drop, List.length_take]; rfl)) ?_; (with_reducible refine (xid_Text.calls a0_0 a0_1 a0_2 a0_3 a0_4 a0_5 t585 _ ?side1 A4.out).mono ?_); (case side1 => exact EnvW.below HE.out (by repeat (first | (with_reducible first | exact HB.out | apply below_alloc | apply pw_below_drewN | apply below_drew1 | refine below_set ?_ GE583.out) | exact HB.out))); rintro e w28 ⟨rfl, hb⟩; refine ⟨_, rfl, ?_⟩; have n0_ := Aside0.mk (blk_below (g := gb583) (o := .cells #[.bool a0_0, .bool a0_1, .int .i64 a0_2, .int .i64 a0_3, .int .i64 a0_4, .int .i64 a0_5] 72 (0, 0)) (by (with_reducible repeat (first | refine blk_drewN ?_ _ | refine blk_drew ?_ | refine blk_alloc ?_ _)); exact BK583.out) hb); have n1_ := Aside0.mk (below_step (by repeat (first | (with_reducible first | exact HB.out | apply below_alloc | apply pw_below_drewN | apply below_drew1 | refine below_set ?_ GE583.out) | exact HB.out)) hb); clear BK583; clear HB; have BK583 := n0_; have HB := n1_; clear n0_ n1_; (try clear hb); (try clear hb2); (try clear hk); (try clear hi); have hcz29_0 : w28.cell? ⟨gb583, 0, none⟩ = some (.bool a0_0) := (blk_cell BK583.out 0).trans rfl; have hcz29_1 : w28.cell? ⟨gb583, 1, none⟩ = some (.bool a0_1) := (blk_cell BK583.out 1).trans rfl; have hcz29_2 : w28.cell? ⟨gb583, 2, none⟩ = some (.int .i64 a0_2) := (blk_cell BK583.out 2).trans rfl; have hcz29_3 : w28.cell? ⟨gb583, 3, none⟩ = some (.int .i64 a0_3) := (blk_cell BK583.out 3).trans rfl; have hcz29_4 : w28.cell? ⟨gb583, 4, none⟩ = some (.int .i64 a0_4) := (blk_cell BK583.out 4).trans rfl; have hcz29_5 : w28.cell? ⟨gb583, 5, none⟩ = some (.int .i64 a0_5) := (blk_cell BK583.out 5).trans rfl; have hfz29_0 := blk_frozen BK583.out 0; have hfz29_1 := blk_frozen BK583.out 1; have hfz29_2 := blk_frozen BK583.out 2; have hfz29_3 := blk_frozen BK583.out 3; have hfz29_4 := blk_frozen BK583.out 4; have hfz29_5 := blk_frozen BK583.out 5) | ((with_reducible refine gate_callee (f := 48) rfl ?_); refine goesL_ (some 11) rfl rfl Tryd.func48 (by kernel_rfl) rfl #[.agg #[.bool a0_0, .bool a0_1, .int .i64 a0_2, .int .i64 a0_3, .int .i64 a0_4, .int .i64 a0_5]] rfl (by (try simp only [List.map_toArray, List.map_cons, List.map_nil]); first | done | rfl | (simp only [List.length_drop, List.length_take]; rfl)) ?_; (with_reducible refine (squelchref08_Right.calls k a0_0 a0_1 a0_2 a0_3 a0_4 a0_5 false _ A5.out).mono ?_); rintro e w30 ⟨rfl, hb⟩; refine ⟨_, rfl, ?_⟩; have n0_ := Aside0.mk (blk_below (g := gb583) (o := .cells #[.bool a0_0, .bool a0_1, .int .i64 a0_2, .int .i64 a0_3, .int .i64 a0_4, .int .i64 a0_5] 72 (0, 0)) (by (with_reducible repeat (first | refine blk_drewN ?_ _ | refine blk_drew ?_ | refine blk_alloc ?_ _)); exact BK583.out) hb); have n1_ := Aside0.mk (below_step (by repeat (first | (with_reducible first | exact HB.out | apply below_alloc | apply pw_below_drewN | apply below_drew1 | refine below_set ?_ GE583.out) | exact HB.out)) hb); clear BK583; clear HB; have BK583 := n0_; have HB := n1_; clear n0_ n1_; (try clear hb); (try clear hb2); (try clear hk); (try clear hi)))
   go_ret
   exact ⟨by first | rfl | (simp [errW_none, errW_some] <;> rfl) | (simp [*, errW_none, errW_some] <;> rfl), by repeat (first | (with_reducible first | exact HB.out | apply below_alloc | apply pw_below_drewN | apply below_drew1 | refine below_set ?_ GE583.out) | exact HB.out)⟩
 ·replace c3 := Bool.eq_false_iff.mpr c3
  subst c3
  have H1 : (some false) = some r := by rw [if_neg (show ¬ (false = true) by decide)] at H; exact H
  clear H
  have H := H1
  clear H1
  exact absurd ((Option.some.inj H).trans HT_.out) (by decide)

end Go.Proofs.YtpmieapgbdbabaaDoor.QAll
end

section
/- The words of parameters, plainly: what is written is read back, and is what the document writes. -/
set_option linter.unusedVariables false
set_option linter.unusedSimpArgs false
namespace Go.Proofs.YtpmieapgbdbabaaDoor.Pure
open Go.RowKit Go.Proofs.YtpmieapgbdbabaaDoor.QAll Go.Proofs.YtpmieapgbdbabaaDoorW.PrintWords Go.Proofs.YtpmieapgbdbabaaDoorW.PrintLast

theorem ba_ext {a b : ByteArray} (h : a.data.toList = b.data.toList) : a = b := by
  obtain ⟨a⟩ := a
  obtain ⟨b⟩ := b
  congr 1
  exact Array.ext' h
theorem dl_app (a b : ByteArray) : (a ++ b).data.toList = a.data.toList ++ b.data.toList := by simp
theorem digits_all : ((List.range 1000).all fun a => decide (squelchref08_digits.f (a : Int) = some (itoaB (a : Int)))) = true := by kernel_rfl
theorem digits_f (n : Int) (h0 : 0 ≤ n) (h1 : n ≤ 999) : squelchref08_digits.f n = some (itoaB n) := by
  obtain ⟨a, rfl⟩ := Int.eq_ofNat_of_zero_le h0
  exact of_decide_eq_true (List.all_eq_true.1 digits_all a (List.mem_range.2 (by omega)))
theorem atoi_all : ((List.range 1000).all fun a => decide (Lib.atoiAll (Lib.itoa (a : Int)) = .ok (a : Int))) = true := by kernel_rfl
theorem atoN_itoa (n : Int) (h0 : 0 ≤ n) (h1 : n ≤ 999) : atoN (itoaB n) = some n := by
  obtain ⟨a, rfl⟩ := Int.eq_ofNat_of_zero_le h0
  have := of_decide_eq_true (List.all_eq_true.1 atoi_all a (List.mem_range.2 (by omega)))
  unfold atoN
  rw [show (itoaB (a : Int)).data.toList = Lib.itoa (a : Int) from rfl, this]
theorem itoa_digs_all : ((List.range 1000).all fun a => (Lib.itoa (a : Int)).all fun b => decide (48 ≤ b.toNat ∧ b.toNat ≤ 57)) = true := by kernel_rfl
theorem itoa_digs (n : Int) (h0 : 0 ≤ n) (h1 : n ≤ 999) : ∀ b ∈ Lib.itoa n, 48 ≤ b.toNat ∧ b.toNat ≤ 57 := by
  obtain ⟨a, rfl⟩ := Int.eq_ofNat_of_zero_le h0
  intro b hb
  exact of_decide_eq_true (List.all_eq_true.1 (List.all_eq_true.1 itoa_digs_all a (List.mem_range.2 (by omega))) b hb)
theorem splitL_app' (c : UInt8) : ∀ (p r : List UInt8), (∀ x ∈ p, x ≠ c) → splitL c (p ++ c :: r) = p :: splitL c r
  | [], r, _ => by simp [splitL]
  | b :: p, r, h => by
    have ih := splitL_app' c p r (fun x hx => h x (by simp [hx]))
    rw [List.cons_append, splitL, if_neg (h b (by simp)), ih]
    rfl
theorem splitL_no' (c : UInt8) : ∀ p : List UInt8, (∀ x ∈ p, x ≠ c) → splitL c p = [p]
  | [], _ => rfl
  | b :: p, h => by
    rw [splitL, if_neg (h b (by simp)), splitL_no' c p (fun x hx => h x (by simp [hx]))]
    rfl
theorem split_join (c : UInt8) : ∀ (r : List (List UInt8)) (x : List UInt8), (∀ y ∈ x :: r, ∀ b ∈ y, b ≠ c) → splitL c (Lib.join (x :: r) [c]) = x :: r
  | [], x, h => by
    rw [Lib.join_one]
    exact splitL_no' c x (h x (by simp))
  | y :: r, x, h => by
    have e : Lib.join (x :: y :: r) [c] = x ++ c :: Lib.join (y :: r) [c] := by
      rw [Lib.join_cons, Lib.join_cons]
      simp [Lib.joinTail]
    rw [e, splitL_app' c x _ (h x (by simp)), split_join c r y (fun z hz => h z (by simp [List.mem_cons.1 hz]))]
theorem index_app' (c : UInt8) : ∀ (l r : List UInt8), (∀ x ∈ l, x ≠ c) → Lib.indexByte (l ++ c :: r) c = l.length
  | [], r, _ => by simp [Lib.indexByte]
  | b :: l, r, h => by
    have ih := index_app' c l r (fun x hx => h x (by simp [hx]))
    have hb : (b == c) = false := beq_eq_false_iff_ne.2 (h b (by simp))
    have hm : (((l.length : Nat) : Int) == -1) = false := beq_eq_false_iff_ne.2 (by omega)
    simp only [List.cons_append, Lib.indexByte, ih, hb, hm, List.length_cons]
    simp
theorem cut_at (p r : List UInt8) (c : UInt8) (h : ∀ x ∈ p, x ≠ c) (s : ByteArray) (hs : s.data.toList = p ++ c :: r) : cutHas s c = true ∧ cutA s c = ⟨p.toArray⟩ ∧ cutB s c = ⟨r.toArray⟩ := by
  have hi : Lib.indexByte s.data.toList c = p.length := by rw [hs]; exact index_app' c p r h
  have hH : cutHas s c = true := by unfold cutHas; rw [hi]; exact decide_eq_true (by omega)
  have hx : idxOf s c = p.length := by unfold idxOf; rw [hi]; omega
  refine ⟨hH, ?_, ?_⟩
  · unfold cutA
    rw [if_pos hH, hx]
    apply ba_ext
    rw [Lib.extract_data, hs]
    simp
  · unfold cutB
    rw [if_pos hH, hx]
    apply ba_ext
    rw [Lib.extract_to_end, hs]
    simp
theorem xnum_list (n k t m : Int) (i : Nat) : (xnum n k t m i).data.toList = (xname i).data.toList ++ 61 :: Lib.itoa (xval n k t m i) := by
  unfold xnum
  rw [dl_app, dl_app]
  simp
  rfl
theorem xname_no : ∀ i : Nat, ∀ x ∈ (xname i).data.toList, x ≠ 61 ∧ x ≠ 32
  | 0 => by decide
  | 1 => by decide
  | 2 => by decide
  | i + 3 => by show ∀ x ∈ [(78 : UInt8), 50], x ≠ 61 ∧ x ≠ 32; decide
theorem xval_le {n k t m : Int} (h : 16 ≤ n ∧ n ≤ 256 ∧ 1 ≤ k ∧ k ≤ 63 ∧ 4 ≤ t ∧ t ≤ 255 ∧ 1 ≤ m ∧ m ≤ 15) : ∀ i : Nat, 0 ≤ xval n k t m i ∧ xval n k t m i ≤ 999
  | 0 => by show 0 ≤ n ∧ n ≤ 999; omega
  | 1 => by show 0 ≤ k ∧ k ≤ 999; omega
  | 2 => by show 0 ≤ t ∧ t ≤ 999; omega
  | i + 3 => by show 0 ≤ m ∧ m ≤ 999; omega
theorem xpair_num {n k t m : Int} (h : 16 ≤ n ∧ n ≤ 256 ∧ 1 ≤ k ∧ k ≤ 63 ∧ 4 ≤ t ∧ t ≤ 255 ∧ 1 ≤ m ∧ m ≤ 15) (i : Nat) : xpair (xnum n k t m i) = (nameIdx (xname i)).map fun j => (j, xval n k t m i) := by
  obtain ⟨h1, h2, h3⟩ := cut_at (xname i).data.toList (Lib.itoa (xval n k t m i)) 61 (fun x hx => (xname_no i x hx).1) _ (xnum_list n k t m i)
  obtain ⟨v0, v1⟩ := xval_le h i
  unfold xpair
  rw [if_pos h1, h3, show (⟨(Lib.itoa (xval n k t m i)).toArray⟩ : ByteArray) = itoaB (xval n k t m i) from rfl, atoN_itoa _ v0 v1, h2]
  rfl
theorem xwords_no {n k t m : Int} (h : 16 ≤ n ∧ n ≤ 256 ∧ 1 ≤ k ∧ k ≤ 63 ∧ 4 ≤ t ∧ t ≤ 255 ∧ 1 ≤ m ∧ m ≤ 15) (wd sr : Bool) : ∀ y ∈ (xwords wd sr n k t m).map (·.data.toList), ∀ b ∈ y, b ≠ 32 := by
  intro y hy b hb
  obtain ⟨x, hx, rfl⟩ := List.mem_map.1 hy
  unfold xwords at hx
  rcases List.mem_append.1 hx with hx | hx
  · unfold xw0 at hx
    rcases List.mem_append.1 hx with hx | hx
    · split at hx
      · rw [List.mem_singleton] at hx
        subst hx
        revert b
        decide
      · cases hx
    · split at hx
      · rw [List.mem_singleton] at hx
        subst hx
        revert b
        decide
      · cases hx
  · unfold xnums at hx
    obtain ⟨i, _, rfl⟩ := List.mem_map.1 hx
    rw [xnum_list] at hb
    rcases List.mem_append.1 hb with hb | hb
    · exact (xname_no i b hb).2
    · rcases List.mem_cons.1 hb with rfl | hb
      · decide
      · obtain ⟨v0, v1⟩ := xval_le h i
        have := itoa_digs _ v0 v1 b hb
        intro e
        subst e
        simp at this
theorem xwords_cons (wd sr : Bool) (n k t m : Int) : ∃ x r, xwords wd sr n k t m = x :: r := by
  cases h : xwords wd sr n k t m with
  | nil => cases wd <;> cases sr <;> simp [xwords, xw0, xnums, List.range_succ] at h
  | cons x r => exact ⟨x, r, rfl⟩
theorem split_text {n k t m : Int} (h : 16 ≤ n ∧ n ≤ 256 ∧ 1 ≤ k ∧ k ≤ 63 ∧ 4 ≤ t ∧ t ≤ 255 ∧ 1 ≤ m ∧ m ≤ 15) (wd sr : Bool) : splitS (xtext wd sr n k t m) ⟨#[32]⟩ = xwords wd sr n k t m := by
  apply map_inj
  rw [split_list, Go.ByteArray.toList_eq]
  have e : (xtext wd sr n k t m).data.toList = Lib.join ((xwords wd sr n k t m).map (·.data.toList)) [32] := by
    unfold xtext joinS joinL
    simp
  rw [e]
  have hno := xwords_no h wd sr
  obtain ⟨x, r, hx⟩ := xwords_cons wd sr n k t m
  rw [hx] at hno ⊢
  rw [List.map_cons] at hno ⊢
  rw [split_join 32 _ _ hno, List.map_cons]
  simp [Go.ByteArray.toList_eq]
theorem read_text {n k t m : Int} (h : 16 ≤ n ∧ n ≤ 256 ∧ 1 ≤ k ∧ k ≤ 63 ∧ 4 ≤ t ∧ t ≤ 255 ∧ 1 ≤ m ∧ m ≤ 15) (wd sr : Bool) : xread (xtext wd sr n k t m) = ⟨wd, sr, n, k, t, m⟩ := by
  unfold xread
  rw [split_text h]
  have e0 := xpair_num h 0
  have e1 := xpair_num h 1
  have e2 := xpair_num h 2
  have e3 := xpair_num h 3
  have i0 : nameIdx (xname 0) = some 2 := by decide
  have i1 : nameIdx (xname 1) = some 3 := by decide
  have i2 : nameIdx (xname 2) = some 4 := by decide
  have i3 : nameIdx (xname 3) = some 5 := by decide
  rw [i0] at e0
  rw [i1] at e1
  rw [i2] at e2
  rw [i3] at e3
  have s0 : ∀ p, xstep p (xnum n k t m 0) = p.set 2 n := fun p => by unfold xstep; rw [e0]; rfl
  have s1 : ∀ p, xstep p (xnum n k t m 1) = p.set 3 k := fun p => by unfold xstep; rw [e1]; rfl
  have s2 : ∀ p, xstep p (xnum n k t m 2) = p.set 4 t := fun p => by unfold xstep; rw [e2]; rfl
  have s3 : ∀ p, xstep p (xnum n k t m 3) = p.set 5 m := fun p => by unfold xstep; rw [e3]; rfl
  have w0 : ∀ p, xstep p ⟨#[87, 73, 68, 69]⟩ = { p with wd := true } := fun p => by
    have : xpair ⟨#[87, 73, 68, 69]⟩ = none := by decide
    unfold xstep; rw [this]; rfl
  have w1 : ∀ p, xstep p ⟨#[83, 82, 69, 74]⟩ = { p with sr := true } := fun p => by
    have : xpair ⟨#[83, 82, 69, 74]⟩ = none := by decide
    unfold xstep; rw [this]; rfl
  unfold xwords xnums
  rw [List.foldl_append]
  have hr : List.range 4 = [0, 1, 2, 3] := rfl
  rw [hr]
  simp only [List.map_cons, List.map_nil, List.foldl_cons, List.foldl_nil, s0, s1, s2, s3]
  cases wd <;> cases sr <;> simp [xw0, w0, w1, xzero, XP.set]
theorem xref_most (wd sr : Bool) (K : Nat) (hK : 2 ≤ K) : squelchref08_Most.f K wd sr = some (xmost wd sr) := by
  obtain ⟨K, rfl⟩ : ∃ k, K = k + 1 := ⟨K - 1, by omega⟩
  cases wd <;> cases sr <;> rfl
theorem xref_right (wd sr : Bool) (n k t m : Int) (K : Nat) (hK : 2 ≤ K) : squelchref08_Right.f K wd sr n k t m = some (xrB wd sr n k t m) := by
  unfold squelchref08_Right.f xrB
  rw [xref_most wd sr K hK]
  simp only [Option.bind_some]
  by_cases h1 : 16 ≤ n
  · rw [if_pos (show n ≥ 16 from h1)]
    by_cases h2 : n ≤ 256
    · rw [if_pos h2, show decide (16 ≤ n ∧ n ≤ 256) = true from decide_eq_true ⟨h1, h2⟩, Bool.true_and]
      by_cases h3 : 1 ≤ k
      · rw [if_pos (show k ≥ 1 from h3)]
        by_cases h4 : k ≤ xmost wd sr
        · rw [if_pos h4, show decide (1 ≤ k ∧ k ≤ xmost wd sr) = true from decide_eq_true ⟨h3, h4⟩, Bool.true_and]
          by_cases h5 : 4 ≤ t
          · rw [if_pos (show t ≥ 4 from h5)]
            by_cases h6 : t ≤ 255
            · rw [if_pos h6, show decide (4 ≤ t ∧ t ≤ 255) = true from decide_eq_true ⟨h5, h6⟩, Bool.true_and]
              by_cases h7 : 1 ≤ m
              · rw [if_pos (show m ≥ 1 from h7)]
                congr 1
                exact decide_eq_decide.2 ⟨fun h => ⟨h7, h⟩, fun h => h.2⟩
              · rw [if_neg (show ¬ m ≥ 1 from h7), show decide (1 ≤ m ∧ m ≤ 15) = false from decide_eq_false (fun h => h7 h.1)]
            · rw [if_neg h6, show decide (4 ≤ t ∧ t ≤ 255) = false from decide_eq_false (fun h => h6 h.2)]; rfl
          · rw [if_neg (show ¬ t ≥ 4 from h5), show decide (4 ≤ t ∧ t ≤ 255) = false from decide_eq_false (fun h => h5 h.1)]; rfl
        · rw [if_neg h4, show decide (1 ≤ k ∧ k ≤ xmost wd sr) = false from decide_eq_false (fun h => h4 h.2)]; rfl
      · rw [if_neg (show ¬ k ≥ 1 from h3), show decide (1 ≤ k ∧ k ≤ xmost wd sr) = false from decide_eq_false (fun h => h3 h.1)]; rfl
    · rw [if_neg h2, show decide (16 ≤ n ∧ n ≤ 256) = false from decide_eq_false (fun h => h2 h.2)]; rfl
  · rw [if_neg (show ¬ n ≥ 16 from h1), show decide (16 ≤ n ∧ n ≤ 256) = false from decide_eq_false (fun h => h1 h.1)]; rfl
theorem xref_text {n k t m : Int} (h : 16 ≤ n ∧ n ≤ 256 ∧ 1 ≤ k ∧ k ≤ 63 ∧ 4 ≤ t ∧ t ≤ 255 ∧ 1 ≤ m ∧ m ≤ 15) (wd sr : Bool) (K : Nat) (hK : 3 ≤ K) : squelchref08_Text.f K wd sr n k t m = some (xtext wd sr n k t m) := by
  obtain ⟨K, rfl⟩ : ∃ k, K = k + 2 := ⟨K - 2, by omega⟩
  have d0 := digits_f n (by omega) (by omega)
  have d1 := digits_f k (by omega) (by omega)
  have d2 := digits_f t (by omega) (by omega)
  have d3 := digits_f m (by omega) (by omega)
  have l0 := itoaB_len n (by omega) (by omega)
  have l1 := itoaB_len k (by omega) (by omega)
  have l2 := itoaB_len t (by omega) (by omega)
  have l3 := itoaB_len m (by omega) (by omega)
  have c3 : (⟨#[78, 49, 61]⟩ : ByteArray).size = 3 := rfl
  have c4 : (⟨#[32, 75, 61]⟩ : ByteArray).size = 3 := rfl
  have c5 : (⟨#[32, 84, 49, 61]⟩ : ByteArray).size = 4 := rfl
  have c6 : (⟨#[32, 78, 50, 61]⟩ : ByteArray).size = 4 := rfl
  have hj1 : ∀ (x : ByteArray) (a b : Bool), x.size ≤ 100 → squelchref08_Text.j1 (K + 1) x a b n k t m = some ((((((((x ++ (⟨#[78, 49, 61]⟩ : ByteArray)) ++ itoaB n) ++ (⟨#[32, 75, 61]⟩ : ByteArray)) ++ itoaB k) ++ (⟨#[32, 84, 49, 61]⟩ : ByteArray)) ++ itoaB t) ++ (⟨#[32, 78, 50, 61]⟩ : ByteArray)) ++ itoaB m) := by
    intro x a b hx
    rw [squelchref08_Text.j1, if_pos (by omega), d0, Option.bind_some, d1]
    simp only [Option.bind_some, d2, d3, ByteArray.size_append, c3, c4, c5, c6]
    rw [if_pos (by omega), if_pos (by omega), if_pos (by omega), if_pos (by omega), if_pos (by omega), if_pos (by omega), if_pos (by omega)]
  unfold squelchref08_Text.f
  have fin : ∀ (x : ByteArray), x.data.toList = ((xw0 wd sr).map fun y => y.data.toList ++ [32]).flatten → some ((((((((x ++ (⟨#[78, 49, 61]⟩ : ByteArray)) ++ itoaB n) ++ (⟨#[32, 75, 61]⟩ : ByteArray)) ++ itoaB k) ++ (⟨#[32, 84, 49, 61]⟩ : ByteArray)) ++ itoaB t) ++ (⟨#[32, 78, 50, 61]⟩ : ByteArray)) ++ itoaB m) = some (xtext wd sr n k t m) := by
    intro x hx
    congr 1
    apply ba_ext
    have e : (xtext wd sr n k t m).data.toList = Lib.join ((xwords wd sr n k t m).map (·.data.toList)) [32] := by
      unfold xtext joinS joinL
      simp
    rw [e]
    simp only [dl_app, hx, itoaB_list]
    unfold xwords xnums
    rw [show List.range 4 = [0, 1, 2, 3] from rfl]
    simp only [List.map_append, List.map_cons, List.map_nil, xnum_list, xval]
    generalize Lib.itoa n = A0
    generalize Lib.itoa k = A1
    generalize Lib.itoa t = A2
    generalize Lib.itoa m = A3
    cases wd <;> cases sr <;> simp [xw0, Lib.join_cons, Lib.joinTail, xname]
  cases wd with
  | true =>
    rw [if_pos rfl, if_pos (by omega), squelchref08_Text.j0]
    cases sr with
    | true =>
      rw [if_pos rfl, if_pos (by decide), hj1 _ _ _ (by decide)]
      exact fin _ (by decide)
    | false =>
      rw [if_neg (by decide), hj1 _ _ _ (by decide)]
      exact fin _ (by decide)
  | false =>
    rw [if_neg (by decide), squelchref08_Text.j0]
    cases sr with
    | true =>
      rw [if_pos rfl, if_pos (by decide), hj1 _ _ _ (by decide)]
      exact fin _ (by decide)
    | false =>
      rw [if_neg (by decide), hj1 _ _ _ (by decide)]
      exact fin _ (by decide)
theorem awake08 : squelchlaw08_awake.f 60 = some true := by kernel_rfl
theorem xbounds {wd sr : Bool} {n k t m : Int} (h : xrB wd sr n k t m = true) : 16 ≤ n ∧ n ≤ 256 ∧ 1 ≤ k ∧ k ≤ 63 ∧ 4 ≤ t ∧ t ≤ 255 ∧ 1 ≤ m ∧ m ≤ 15 := xright_bounds (by rw [xright_eq, h])
theorem xtext_f (wd sr : Bool) (n k t m : Int) : xid_Text.f wd sr n k t m = some (if xrB wd sr n k t m = true then xtext wd sr n k t m else ⟨#[]⟩) := by
  unfold xid_Text.f
  rw [xright_eq]
  cases xrB wd sr n k t m <;> rfl
theorem xtext_size {wd sr : Bool} {n k t m : Int} (h : xrB wd sr n k t m = true) : (xtext wd sr n k t m).size ≤ 100 ∧ xtext wd sr n k t m ≠ ⟨#[]⟩ := by
  have hj := join_len n k t m wd sr (by rw [xright_eq, h])
  have hs : (xtext wd sr n k t m).size = (joinL (xwords wd sr n k t m) ⟨#[32]⟩).length := by
    unfold xtext joinS
    exact List.size_toArray
  refine ⟨by omega, fun e => ?_⟩
  have hr := read_text (xbounds h) wd sr
  rw [e] at hr
  have : xread ⟨#[]⟩ = xzero := by kernel_rfl
  rw [this] at hr
  have := xbounds h
  have hn : xzero.n = n := by rw [hr]
  have : xzero.n = 0 := rfl
  omega
theorem xparse_text {wd sr : Bool} {n k t m : Int} (h : xrB wd sr n k t m = true) : xid_Parse.f (xtext wd sr n k t m) = some (wd, sr, n, k, t, m, 0) := by
  obtain ⟨h1, h2⟩ := xtext_size h
  unfold xid_Parse.f
  rw [if_pos (by omega), if_neg h2, read_text (xbounds h)]
  simp only
  rw [xtext_f, h, if_pos rfl, Option.bind_some, if_pos rfl]
end Go.Proofs.YtpmieapgbdbabaaDoor.Pure
end

section
/- The plain law of XidTexts: right parameters have the document's words, of which they are read; others have none. -/
set_option linter.unusedVariables false
set_option linter.unusedSimpArgs false
namespace Go.Proofs.YtpmieapgbdbabaaDoor.Pure
open Go.RowKit Go.Proofs.YtpmieapgbdbabaaDoor.QAll Go.Proofs.YtpmieapgbdbabaaDoorW.PrintWords Go.Proofs.YtpmieapgbdbabaaDoorW.PrintLast
theorem XidTexts : ∀ (a0_0 a0_1 : Bool) (a0_2 a0_3 a0_4 a0_5 : Int), (Lit.int .i64 a0_2).wf = true → (Lit.int .i64 a0_3).wf = true → (Lit.int .i64 a0_4).wf = true → (Lit.int .i64 a0_5).wf = true → ∃ k, squelchlaw08_XidTexts.f k a0_0 a0_1 a0_2 a0_3 a0_4 a0_5 = some true := by
  intro wd sr n k t m _ _ _ _
  refine ⟨60, ?_⟩
  unfold squelchlaw08_XidTexts.f
  rw [awake08, Option.bind_some, if_pos rfl, xtext_f, Option.bind_some, xref_right _ _ _ _ _ _ 60 (by omega), Option.bind_some]
  cases h : xrB wd sr n k t m with
  | false =>
    rw [if_neg (by decide), if_neg (by decide)]
    congr 1
    rw [Go.ByteArray.toList_eq]
    rfl
  | true =>
    rw [if_pos rfl, if_pos rfl, xparse_text h, Option.bind_some, xref_text (xbounds h) wd sr 60 (by omega), Option.bind_some, if_pos rfl, if_pos rfl]
    simp
end Go.Proofs.YtpmieapgbdbabaaDoor.Pure
end

section
/- From a row's listed variables, and the world's shape, to what the walks ask of the package's variables; and the wrap of a row that hands on both. -/
set_option linter.unusedVariables false
namespace Go.Proofs.YtpmieapgbdbabaaDoor.QAll
open Go.RowKit Go.Lib

theorem lz1 : Tryd.prog.globalNamed "strconv.ErrSyntax" = some 1 := by kernel_rfl
theorem lz2 : Tryd.prog.globalNamed "strconv.ErrRange" = some 2 := by kernel_rfl
theorem lz3 : Tryd.prog.globalNamed "internal/strconv.uint64pow10" = some 3 := by kernel_rfl
theorem lzt1 : (Tryd.prog.globals[1]?).map (·.type) = some 109 := by kernel_rfl
theorem lzt2 : (Tryd.prog.globals[2]?).map (·.type) = some 109 := by kernel_rfl
theorem lzt3 : (Tryd.prog.globals[3]?).map (·.type) = some 186 := by kernel_rfl
theorem lzu109 : Tryd.prog.underlying 109 = some (.interface #[("Error", 112)]) := by kernel_rfl
theorem tab_of_reads {W : World} {name : String} {k : IntKind} {zs : List Int} {g : Nat} {t e : TypeId} {n : Nat}
    (hg : Tryd.prog.globalNamed name = some g) (hty : (Tryd.prog.globals[g]?).map (·.type) = some t) (ht : Tryd.prog.underlying t = some (.array n e)) (he : Tryd.prog.underlying e = some (.int k)) (hce : Tryd.prog.cellsOf e = 1) (hct : Tryd.prog.cellsOf t = n)
    (h : VarReads Tryd.prog W name (tabData k zs)) : TabIs Tryd.prog W name k zs := by
  obtain ⟨g', t', cs, fuel, p, hg', ht', hvar, hd⟩ := h
  obtain rfl := Option.some.inj (hg.symm.trans hg')
  obtain rfl := Option.some.inj (hty.symm.trans ht')
  unfold TabIs
  rw [hvar, ← cells_of_tab ht he hce hct hd]
theorem err_of_reads {W : World} {name : String} {g : Nat} {nm : String} {d : DataW Unit}
    (hg : Tryd.prog.globalNamed name = some g) (hty : (Tryd.prog.globals[g]?).map (·.type) = some 109)
    (h : VarReads Tryd.prog W name (.iface nm d)) : ∃ ev, W.cell? ⟨g, 0, none⟩ = some ev ∧ (ev = .nilIface ∨ ∃ te pe, ev = .iface te pe) := by
  obtain ⟨g', t', cs, fuel, p, hg', ht', hvar, hd⟩ := h
  obtain rfl := Option.some.inj (hg.symm.trans hg')
  obtain rfl := Option.some.inj (hty.symm.trans ht')
  obtain ⟨fuel', u, v, hcs, _, _⟩ := iface_of_trod lzu109 hd
  refine ⟨.iface u v, ?_, Or.inr ⟨u, v, rfl⟩⟩
  have e : cs = #[.iface u v] := by apply Array.ext'; simpa using hcs
  subst e
  simpa using World.var?_cell hg hvar 0
theorem maxLen_shaped {W : World} (h : W.ShapedOpen Tryd.prog) : ∃ m, W.cell? ⟨0, 0, none⟩ = some (.int .i64 m) :=
  cell_of_shapedOpen_int (t := 3) (zero := #[.int .i64 0]) h (of_decide_eq_true (by kernel_rfl)) (by kernel_rfl) rfl (by kernel_rfl) (by kernel_rfl) Tryd.underlying3
theorem env_of_laid {W : World} {l : List (String × DataW Unit)} (hsh : W.ShapedOpen Tryd.prog) (hL : laidMet Tryd.prog l W)
    (h1 : ("internal/strconv.uint64pow10", Rows.laid_internal_strconv_uint64pow10) ∈ l) (h2 : ("strconv.ErrRange", Rows.laid_strconv_ErrRange) ∈ l) (h3 : ("strconv.ErrSyntax", Rows.laid_strconv_ErrSyntax) ∈ l) : EnvW W := by
  refine ⟨maxLen_shaped hsh, err_of_reads lz1 lzt1 (laidMet.reads hL h3), err_of_reads lz2 lzt2 (laidMet.reads hL h2), ?_⟩
  exact tab_of_reads (t := 186) (zs := Lib.pow10Tab) lz3 lzt3 Tryd.underlying186 Tryd.underlying169 (by kernel_rfl) (by kernel_rfl) (laidMet.reads hL h1)

/-- The wrap of a row that lists variables, with the reach, the listed variables and the world's shape handed on. -/
theorem returns_laid_shaped {H : Type} {enc : TypeId × Value → H} {a : Assume} {C : Checked} {os : Os} {f : FuncId} {fn : Func} {s : ChangeSpec} {conds : List PathCond} {apart fresh handsOn again : Bool} {l : List (String × DataW Unit)}
    (own : ownKnob C.prog.godebug = none) (started : os.Started) (noInit : C.prog.inits.idxOf? f = none) (hfn : C.prog.funcs[f]? = some fn)
    (witness : ∃ (w : World) (tape : Tape) (i : Input), w.os = os ∧ (w.forCall tape i).Shaped C.prog ∧ i.vars = [] ∧ Input.okWide C.prog (w.forCall tape i) .any w.heap.size f i ∧
      ((s.pre enc C.prog fn conds apart (w.forCall tape i).memory i.args ∧ laidMetH C.prog l (w.forCall tape i).memory) ∧ sizedMet enc C.prog fn (OpenSpec.ofChange s) apart (w.forCall tape i).memory i.args) ∧ a.holds C.prog (lone (Frame.enter C.prog f i.args .normal) [] (w.forCall tape i)))
    (contract : ∀ (W : World) (base : Nat) (args : Array Value) (ds gs : List (DataW H)) (before : List MemPlace),
      (∀ (j : Nat) t v, fn.params[j]? = some t → args[j]? = some v → Value.okWide C.prog W .any base t v) →
      DataW.Whole enc C.prog fn.params.toList s.vars apart W args.toList ds gs before →
      conds.all (PathCond.test C.prog ⟨fn.params.toList, ds, s.plain.varTypes C.prog, gs⟩) = true →
      (DataW.weightsEach C.prog (fn.params.toList ++ s.plain.varTypes C.prog) (ds ++ gs)).all (· ≤ reachBytes) = true → laidMetH C.prog l W → W.ShapedOpen C.prog →
      Calls C.prog f args W fun e W' => ∃ v, e = .returned v ∧ s.post enc C.prog fn apart fresh handsOn again W args v W') :
    ReturnsInHanded a C os f .any (fun w args => (s.pre enc C.prog fn conds apart w args ∧ laidMetH C.prog l w) ∧ sizedMet enc C.prog fn (OpenSpec.ofChange s) apart w args) (s.post enc C.prog fn apart fresh handsOn again) := by
  refine returnsInHanded_of_calls own started noInit witness ?_
  intro w tape i _ hsh _ hok hpre hholds
  obtain ⟨_, _, _, fn', hfn', _, _, _, _, hval⟩ := hok
  have e : fn' = fn := Option.some.inj (hfn'.symm.trans hfn)
  subst e
  obtain ⟨⟨⟨ds, gs, before, hw, hc⟩, hx⟩, hz⟩ := hpre
  have hw' := DataW.Whole.of_heap (w' := w.forCall tape i) (by rfl) hw
  refine (contract (w.forCall tape i) w.heap.size i.args ds gs before hval hw' hc (hz.weights hw) (laidMetH.of_heap (by rfl) hx) hsh).mono fun e W' ⟨v, he, hp⟩ => ?_
  subst he
  exact ChangeSpec.post_blind hp
end Go.Proofs.YtpmieapgbdbabaaDoor.QAll
end

section
/- The statement that the law squelchlaw08.XidTexts is true of every input, its arguments left as they were: the row, out of its walk and its plain law. Written by a program of this session (wip/pp/row.py). -/
namespace Go.Proofs.YtpmieapgbdbabaaDoor.xidTextsRow
open Go.ChangeShapes Go.WideShapes Go.ChangeAt Go.RowKit
open Go.ChangeMaps (open_string shut_string)
set_option linter.unusedVariables false
set_option linter.unusedSimpArgs false
theorem own : ownKnob Tryd.prog.godebug = none := by kernel_rfl
theorem laidOut : laidOutB Tryd.prog = true := by kernel_rfl
theorem cells3 : Tryd.prog.cellsOf 3 = 1 := by kernel_rfl
theorem cells4 : Tryd.prog.cellsOf 4 = 1 := by kernel_rfl
theorem cells72 : Tryd.prog.cellsOf 72 = 6 := by kernel_rfl
set_option maxRecDepth 100000 in
theorem open72 {H : Type} {enc : TypeId × Value → H} {w : World} {fuel : Nat} {cs : List Value} {x : DataW H × List MemPlace} (h : DataW.trod enc Tryd.prog w 0 (fun _ => true) true fuel 72 cs = some x) :
    ∃ (a_0 : Bool) (a_1 : Bool) (a_2 : Int) (a_3 : Int) (a_4 : Int) (a_5 : Int), cs = [.bool a_0, .bool a_1, .int .i64 a_2, .int .i64 a_3, .int .i64 a_4, .int .i64 a_5] ∧ x.1 = (.agg [(.lit (.bool a_0)), (.lit (.bool a_1)), (.lit (.int .i64 a_2)), (.lit (.int .i64 a_3)), (.lit (.int .i64 a_4)), (.lit (.int .i64 a_5))]) ∧ True ∧ True ∧ (Lit.int .i64 a_2).wf = true ∧ (Lit.int .i64 a_3).wf = true ∧ (Lit.int .i64 a_4).wf = true ∧ (Lit.int .i64 a_5).wf = true := by
  obtain ⟨xs, n, -, rfl, hc, hl, hg⟩ := DataW.trod_struct Tryd.underlying72 h
  rw [cells72] at hc
  obtain ⟨c0, c1, c2, c3, c4, c5, rfl⟩ : ∃ c0 c1 c2 c3 c4 c5, cs = [c0, c1, c2, c3, c4, c5] := by
    match cs, hc with
    | [c0, c1, c2, c3, c4, c5], _ => exact ⟨_, _, _, _, _, _, rfl⟩
  obtain ⟨y0, y1, y2, y3, y4, y5, rfl⟩ : ∃ y0 y1 y2 y3 y4 y5, xs = [y0, y1, y2, y3, y4, y5] := by
    match xs, hl with
    | [y0, y1, y2, y3, y4, y5], _ => exact ⟨_, _, _, _, _, _, rfl⟩
  clear h hc hl
  have g0 : DataW.trod enc Tryd.prog w 0 (fun _ => true) true n 4 [c0] = some y0 := by
    have z := hg 0 _ rfl
    simp only [cells4, List.drop_zero, List.drop_succ_cons, List.take_succ_cons, List.take_zero, List.getElem?_cons_zero, List.getElem?_cons_succ] at z
    exact z
  have g1 : DataW.trod enc Tryd.prog w 0 (fun _ => true) true n 4 [c1] = some y1 := by
    have z := hg 1 _ rfl
    simp only [cells4, List.drop_zero, List.drop_succ_cons, List.take_succ_cons, List.take_zero, List.getElem?_cons_zero, List.getElem?_cons_succ] at z
    exact z
  have g2 : DataW.trod enc Tryd.prog w 0 (fun _ => true) true n 3 [c2] = some y2 := by
    have z := hg 2 _ rfl
    simp only [cells3, List.drop_zero, List.drop_succ_cons, List.take_succ_cons, List.take_zero, List.getElem?_cons_zero, List.getElem?_cons_succ] at z
    exact z
  have g3 : DataW.trod enc Tryd.prog w 0 (fun _ => true) true n 3 [c3] = some y3 := by
    have z := hg 3 _ rfl
    simp only [cells3, List.drop_zero, List.drop_succ_cons, List.take_succ_cons, List.take_zero, List.getElem?_cons_zero, List.getElem?_cons_succ] at z
    exact z
  have g4 : DataW.trod enc Tryd.prog w 0 (fun _ => true) true n 3 [c4] = some y4 := by
    have z := hg 4 _ rfl
    simp only [cells3, List.drop_zero, List.drop_succ_cons, List.take_succ_cons, List.take_zero, List.getElem?_cons_zero, List.getElem?_cons_succ] at z
    exact z
  have g5 : DataW.trod enc Tryd.prog w 0 (fun _ => true) true n 3 [c5] = some y5 := by
    have z := hg 5 _ rfl
    simp only [cells3, List.drop_zero, List.drop_succ_cons, List.take_succ_cons, List.take_zero, List.getElem?_cons_zero, List.getElem?_cons_succ] at z
    exact z
  clear hg
  obtain ⟨a_0, e0, rfl⟩ := DataW.trod_bool Tryd.underlying4 g0
  simp only [List.cons.injEq, and_true] at e0
  subst e0
  obtain ⟨a_1, e1, rfl⟩ := DataW.trod_bool Tryd.underlying4 g1
  simp only [List.cons.injEq, and_true] at e1
  subst e1
  obtain ⟨a_2, e2, rfl, wa_2⟩ := DataW.trod_int Tryd.underlying3 g2
  simp only [List.cons.injEq, and_true] at e2
  subst e2
  obtain ⟨a_3, e3, rfl, wa_3⟩ := DataW.trod_int Tryd.underlying3 g3
  simp only [List.cons.injEq, and_true] at e3
  subst e3
  obtain ⟨a_4, e4, rfl, wa_4⟩ := DataW.trod_int Tryd.underlying3 g4
  simp only [List.cons.injEq, and_true] at e4
  subst e4
  obtain ⟨a_5, e5, rfl, wa_5⟩ := DataW.trod_int Tryd.underlying3 g5
  simp only [List.cons.injEq, and_true] at e5
  subst e5
  exact ⟨a_0, a_1, a_2, a_3, a_4, a_5, rfl, by simp only [List.map_cons, List.map_nil], trivial, trivial, wa_2, wa_3, wa_4, wa_5⟩
theorem met (os : Os) (args : Array Value) : laidMetH Tryd.prog Rows.xidTextsRow.laid ((World.laidAll Tryd.prog os Rows.xidTextsRow.laid).forCall (fun _ _ => 0) ⟨#[], args, []⟩).memory :=
  (show laidMet Tryd.prog Rows.xidTextsRow.laid _ from laidMet_laidAll _ (by kernel_rfl) (by kernel_rfl))
set_option maxRecDepth 100000 in
theorem lifted (os : Os) (started : os.Started) (H : Type) (enc : TypeId × Value → H) :
    ReturnsInHanded {} Tryd.checked os 10 .any (fun w args => (Rows.xidTextsSpec.pre enc Tryd.prog Tryd.f10 Rows.xidTextsRow.domain false w args ∧ laidMetH Tryd.prog Rows.xidTextsRow.laid w) ∧ sizedMet enc Tryd.prog Tryd.f10 (OpenSpec.ofChange Rows.xidTextsSpec) false w args) (Rows.xidTextsSpec.post enc Tryd.prog Tryd.f10 false true false false) := by
  refine QAll.returns_laid_shaped (C := Tryd.checked) own started (by kernel_rfl) Tryd.func10
    (ChangeSpec.witness_at (enc := enc) (C := Tryd.checked) (os := os) (X := fun w _ => laidMetH Tryd.prog Rows.xidTextsRow.laid w) false (World.laidAll Tryd.prog os Rows.xidTextsRow.laid) #[.agg #[.bool false, .bool false, .int .i64 0, .int .i64 0, .int .i64 0, .int .i64 0]] 8 (World.laidAll_os _ _ _) (by kernel_rfl) (by kernel_rfl) (by kernel_rfl) (by kernel_rfl) (by kernel_rfl) (met os _)) ?_
  intro W base args ds gs before hval0 hW hcnd hsz0 hL hsh
  have hE : QAll.EnvW W := QAll.env_of_laid hsh (show laidMet Tryd.prog Rows.xidTextsRow.laid W from hL) (by simp [Rows.xidTextsRow]) (by simp [Rows.xidTextsRow]) (by simp [Rows.xidTextsRow])
  have hsz : (DataW.weightsEach Tryd.prog (Tryd.f10.params.toList ++ Rows.xidTextsSpec.plain.varTypes Tryd.prog) (ds ++ gs)).all (· ≤ reachBytes) = true := hsz0
  have hval : ∀ (j : Nat) t v, Tryd.f10.params[j]? = some t → args[j]? = some v → Value.okWide Tryd.prog W .any base t v := hval0
  have hW' := hW
  obtain ⟨p, q, hA0, hV, rfl, hfz, hnd⟩ := hW
  have hA : DataW.TrodAll enc Tryd.prog W 0 (fun _ => true) true Tryd.f10.params.toList args.toList ds p := hA0
  rw [Tryd.params10] at hA hval hsz
  obtain ⟨v0, vs0, d0, ds0, p0, q0, hargs, rfl, rfl, h0, r0⟩ := trodAll_cons hA
  obtain ⟨rfl, rfl, rfl⟩ := trodAll_nil r0
  obtain rfl : args = #[v0] := by cases args; simp_all
  obtain ⟨rfl, rfl⟩ := trodVars_none hV
  have k0 := h0
  have lt0 : ∀ x ∈ p0, x.block < W.heap.size := by obtain ⟨m, hm⟩ := k0; exact DataW.trod_lt m _ _ _ hm
  obtain ⟨cs0, rfl, -⟩ := okWide_struct Tryd.underlying72 (hval 0 72 v0 rfl rfl)
  obtain ⟨fu0, hf0⟩ := h0
  obtain ⟨a0_0, a0_1, a0_2, a0_3, a0_4, a0_5, e0, hd0, wa0_0, wa0_1, wa0_2, wa0_3, wa0_4, wa0_5⟩ := open72 hf0
  replace e0 : cs0 = #[.bool a0_0, .bool a0_1, .int .i64 a0_2, .int .i64 a0_3, .int .i64 a0_4, .int .i64 a0_5] := by apply Array.ext'; simpa [Value.cells] using e0
  subst e0
  replace hd0 : d0 = (.agg [(.lit (.bool a0_0)), (.lit (.bool a0_1)), (.lit (.int .i64 a0_2)), (.lit (.int .i64 a0_3)), (.lit (.int .i64 a0_4)), (.lit (.int .i64 a0_5))]) := hd0
  subst hd0
  clear hA0 hval0 hsz0 hsz
  obtain ⟨k, hp⟩ := Pure.XidTexts a0_0 a0_1 a0_2 a0_3 a0_4 a0_5 wa0_2 wa0_3 wa0_4 wa0_5
  refine (QAll.squelchlaw08_XidTexts.calls k a0_0 a0_1 a0_2 a0_3 a0_4 a0_5 true W hE rfl hp).mono fun e W' ⟨he, bel⟩ => ?_
  subst he
  exact ⟨_, rfl, _, _, _, [], _, [], hW', trodAll_mk1 (shut_bool Tryd.underlying4 _), (trodAll_cons_mk (Below.trod laidOut (by kernel_rfl) (of_decide_eq_true (by kernel_rfl)) k0 bel lt0) trodAll_mk0), rfl, bel.frame _, fun h => by cases h⟩
theorem over : Rows.xidTextsRow.holds Tryd.pinned (OpenSpec.ofChange Rows.xidTextsSpec) :=
  OpenClaim.holds_of_wide 10 Tryd.f10 rfl rfl rfl rfl rfl rfl rfl ⟨rfl, rfl, rfl, rfl, rfl⟩ rfl rfl rfl rfl rfl (by kernel_rfl) Tryd.func10 (by kernel_rfl)
    (of_decide_eq_true (by kernel_rfl)) (by unfold Func.isWrapper; first | (rw [if_pos (by decide +kernel)]; kernel_rfl) | (rw [if_neg (by decide +kernel)]; exact ⟨rfl, rfl⟩))
    (fun os started H enc _ => lifted os started H enc)
theorem card : Rows.XidTextsCardSaid :=
  Claim7.holds_tied_plain_at .later [] [.data, .data, .data, .data, .sentinel, .sentinel, .pinned] true (true, "b63f2f92baa42f5091e235388c6ae0d54991875acb84ccae606eb7f7e9e6d94e") true
    over (fun _ h => by cases h) (by kernel_rfl) (fun _ h => by cases h) xidTexts_row_tie rfl ⟨rfl, rfl⟩ (by kernel_rfl) rfl
    (fun f fn hf hfn => by
      obtain rfl : f = 10 := Option.some.inj ((show Tryd.prog.funcNamed "squelch/squelchlaw08.XidTexts" = some 10 by kernel_rfl).symm.trans hf) |>.symm
      obtain rfl : fn = Tryd.f10 := (Option.some.inj (Tryd.func10.symm.trans hfn)).symm
      exact ⟨by kernel_rfl, fun j t ht => by
        rw [Tryd.params10] at ht
        have hm := Array.mem_of_getElem? ht
        simp at hm
        rcases hm with rfl
        · exact (show Tryd.prog.wantsStandIn 72 = false by kernel_rfl)
      ⟩)
    (by kernel_rfl)
end Go.Proofs.YtpmieapgbdbabaaDoor.xidTextsRow
namespace Go.Proofs.YtpmieapgbdbabaaDoor
theorem xidTexts_holds : Rows.XidTextsCardSaid := xidTextsRow.card
#print axioms xidTexts_holds
end Go.Proofs.YtpmieapgbdbabaaDoor
end
