/- strings.Cut at a separator of one byte, walked by hand over the shelf's contract of Index: what stands ahead of the first such byte, and behind it, for every text. -/
import Derived.Test.YtpmieapgbdbabaaDoorQAllx0
import Derived.Test.YtpmieapgbdbabaaDoorHShelf
import Derived.RegionTactic
import Derived.WalkSpells
set_option linter.unusedVariables false
set_option linter.unusedSimpArgs false
namespace Go.Proofs.YtpmieapgbdbabaaDoor.QAll
open Go.RowKit Go.Proofs.YtpmieapgbdbabaaDoorW.PrintWords Go.Proofs.YtpmieapgbdbabaaDoorW.PrintLast Go.Proofs.YtpmieapgbdbabaaDoorW.PrintMore

/-- Where the first byte c stands; the length, if there is none. -/
def idxOf (s : ByteArray) (c : UInt8) : Nat := (Lib.indexByte s.data.toList c).toNat
def cutHas (s : ByteArray) (c : UInt8) : Bool := decide (0 ≤ Lib.indexByte s.data.toList c)
def cutA (s : ByteArray) (c : UInt8) : ByteArray := if cutHas s c = true then s.extract 0 (idxOf s c) else s
def cutB (s : ByteArray) (c : UInt8) : ByteArray := if cutHas s c = true then s.extract (idxOf s c + 1) s.size else ⟨#[]⟩

theorem indexByte_lt : ∀ (l : List UInt8) (c : UInt8) (i : Nat), Lib.indexByte l c = i → i < l.length
  | [], c, i, h => by
    simp only [Lib.indexByte] at h
    omega
  | b :: l, c, i, h => by
    have hg := Lib.indexByte_ge l c
    simp only [Lib.indexByte] at h
    by_cases e : (b == c) = true
    · rw [if_pos e] at h; simp only [List.length_cons]; omega
    · rw [if_neg e] at h
      by_cases e2 : (Lib.indexByte l c == -1) = true
      · rw [if_pos e2] at h; omega
      · rw [if_neg e2] at h
        have e3 : Lib.indexByte l c ≠ -1 := by simpa using e2
        have := indexByte_lt l c (i - 1) (by omega)
        simp only [List.length_cons]; omega

set_option maxHeartbeats 1000000 in
set_option maxRecDepth 100000 in
theorem slCut_one (s : ByteArray) (c : UInt8) (w : World) (hs : s.size ≤ 9223372036854775807) :
    Calls Tryd.prog 92 #[.string s, .string ⟨#[c]⟩] w fun e w' => e = .returned (.tuple #[.string (cutA s c), .string (cutB s c), .bool (cutHas s c)]) ∧ Drawn0 w w' := by
  by_cases h : 0 ≤ Lib.indexByte s.data.toList c
  · obtain ⟨i, hi⟩ := Int.eq_ofNat_of_zero_le h
    have hlt : i < s.size := by have := indexByte_lt _ _ _ hi; simpa using this
    have HA := Aside0.mk (show cutA s c = s.extract 0 i by unfold cutA cutHas idxOf; rw [hi]; simp)
    have HB := Aside0.mk (show cutB s c = s.extract (i + 1) s.size by unfold cutB cutHas idxOf; rw [hi]; simp)
    have HH := Aside0.mk (show cutHas s c = true by unfold cutHas; rw [hi]; simp)
    have HI := Aside0.mk hi
    clear h hi
    go_enter Tryd.func92, Tryd.ntmps92
    go_wp2_with (go_at_call 106; refine (Tryd.stringslite_Index_one s c _).mono ?_; rw [HI.out]; rintro e w' ⟨rfl, rfl⟩)
    have h0 : (0 : Int) ≤ (i : Int) := by omega
    have h1 : (i : Int) ≤ (s.size : Int) := by omega
    have h2 : (i : Int) + 1 ≤ (s.size : Int) := by omega
    go_quiet (fail)
    go_wp2
    go_ret3
    exact ⟨by rw [HA.out, HB.out, HH.out]; rfl, ⟨_, rfl⟩⟩
  · have HA := Aside0.mk (show cutA s c = s by unfold cutA cutHas; rw [decide_eq_false h]; simp)
    have HB := Aside0.mk (show cutB s c = ⟨#[]⟩ by unfold cutB cutHas; rw [decide_eq_false h]; simp)
    have HH := Aside0.mk (show cutHas s c = false by unfold cutHas; rw [decide_eq_false h])
    have hm : Lib.indexByte s.data.toList c = -1 := by have := Lib.indexByte_ge s.data.toList c; omega
    have HI := Aside0.mk hm
    clear h hm
    go_enter Tryd.func92, Tryd.ntmps92
    go_wp2_with (go_at_call 106; refine (Tryd.stringslite_Index_one s c _).mono ?_; rw [HI.out]; rintro e w' ⟨rfl, rfl⟩)
    go_ret3
    exact ⟨by rw [HA.out, HB.out, HH.out]; rfl, Drawn0.refl _⟩
theorem cut_one (s : ByteArray) (c : UInt8) (w : World) (hs : s.size ≤ 9223372036854775807) :
    Calls Tryd.prog 70 #[.string s, .string ⟨#[c]⟩] w fun e w' => e = .returned (.tuple #[.string (cutA s c), .string (cutB s c), .bool (cutHas s c)]) ∧ Drawn0 w w' := by
  go_enter Tryd.func70, Tryd.ntmps70
  go_wp2_with (go_at_call 92; refine (slCut_one s c _ hs).mono ?_; rintro e w' ⟨rfl, ⟨nd, rfl⟩⟩)
  go_ret3
  exact ⟨rfl, ⟨_, rfl⟩⟩
end Go.Proofs.YtpmieapgbdbabaaDoor.QAll
