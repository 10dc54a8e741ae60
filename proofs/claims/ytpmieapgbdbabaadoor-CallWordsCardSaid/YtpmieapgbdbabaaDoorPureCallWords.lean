/- The plain law of CallWords: a call's word is what the reference says, and is read as it; a word is read as the reference says; over plain strings and numbers. -/
import Derived.Test.YtpmieapgbdbabaaDoorQAllxF8
import Derived.Test.YtpmieapgbdbabaaDoorPureText
set_option linter.unusedVariables false
namespace Go.Proofs.YtpmieapgbdbabaaDoor.Pure
open Go.RowKit Go.Proofs.YtpmieapgbdbabaaDoor.QAll Go.Proofs.YtpmieapgbdbabaaDoorW.PrintWords Go.Proofs.YtpmieapgbdbabaaDoorW.PrintLast

theorem awake04w : squelchlaw04_awake.f = some true := by kernel_rfl
theorem call_parse (s : ByteArray) (hs : s.size ≤ 1000000) : call_Parse.f s = some (parseS s) := by
  unfold call_Parse.f
  rw [if_pos (by omega)]
theorem j2_words (k : Nat) (s : ByteArray) (hs : s.size ≤ 1000000) (hk : 3 * s.size + 26 ≤ k) : squelchlaw04_CallWords.j2 k s false = some true := by
  obtain ⟨k, rfl⟩ : ∃ k', k = k' + 1 := ⟨k - 1, by omega⟩
  rw [squelchlaw04_CallWords.j2, if_neg (by simp), call_parse s hs, ref_parse s (by omega) k (by omega)]
  simp only [Option.bind_some]
  rw [if_pos (by simp), if_pos (by simp)]
  rcases parse_err s with h | h <;> rw [h] <;> rfl
theorem j1_words (k : Nat) (s : ByteArray) (hs : s.size ≤ 1000000) (hk : 3 * s.size + 27 ≤ k) (b : ByteArray) (n : Int) (hb : b.size ≤ 100) : squelchlaw04_CallWords.j1 k s (rightB b n) false b n = some true := by
  obtain ⟨k, rfl⟩ : ∃ k', k = k' + 1 := ⟨k - 1, by omega⟩
  rw [squelchlaw04_CallWords.j1, if_neg (by simp)]
  by_cases hr : rightB b n = true
  · rw [if_pos hr, call_text b n (by omega), if_pos hr]
    have hts := text_size b n
    simp only [Option.bind_some]
    rw [call_parse _ (by omega), parse_text b n hr, ref_text b n hr]
    simp only [Option.bind_some]
    rw [if_pos trivial, if_pos trivial]
    have e : (!(b.toList == b.toList) || !(n == n)) = false := by simp
    rw [e]
    exact j2_words k s hs (by omega)
  · rw [if_neg hr, call_parse s hs, ref_parse s (by omega) k (by omega)]
    simp only [Option.bind_some]
    rw [if_pos (by simp), if_pos (by simp)]
    rcases parse_err s with h | h <;> rw [h] <;> rfl
theorem CallWords (a0_0 : ByteArray) (a0_1 : Int) (a1 : ByteArray) (z0 : a0_0.size ≤ 140737488351232) (w0 : (Lit.int .i64 a0_1).wf = true) (z1 : a1.size ≤ 140737488351232) :
    ∃ k, squelchlaw04_CallWords.f k a0_0 a0_1 a1 = some true := by
  refine ⟨1000, ?_⟩
  unfold squelchlaw04_CallWords.f
  rw [awake04w, Option.bind_some, if_pos rfl]
  by_cases h1 : (a0_0.size : Int) > 100
  · rw [if_pos h1]; rfl
  · rw [if_neg h1]
    by_cases h2 : (a1.size : Int) > 100
    · rw [decide_eq_true h2]; rfl
    · rw [decide_eq_false h2, show (1000 : Nat) = 999 + 1 from rfl, squelchlaw04_CallWords.j0, if_neg (by simp), ref_right _ _ (by omega) _ (by omega), Option.bind_some]
      unfold call_Right.f
      rw [if_pos (by omega), Option.bind_some, if_neg (by simp)]
      have hj := j1_words 999 a1 (by omega) (by omega) a0_0 a0_1 (by omega)
      by_cases hr : rightB a0_0 a0_1 = true
      · rw [if_pos hr]; exact hj
      · rw [if_neg hr, call_text _ _ (by omega), if_neg hr, Option.bind_some]
        have e : ((⟨#[]⟩ : ByteArray).toList != ([] : List UInt8)) = false := by rw [Go.ByteArray.toList_eq]; rfl
        rw [e]
        exact hj
end Go.Proofs.YtpmieapgbdbabaaDoor.Pure
