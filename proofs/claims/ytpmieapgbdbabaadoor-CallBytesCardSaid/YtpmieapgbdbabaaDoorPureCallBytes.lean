/- The plain law of CallBytes: a call's bytes are what the reference says, and are read as it; bytes are read as the reference says; over plain strings and numbers. -/
import Derived.Test.YtpmieapgbdbabaaDoorQAllxF12
import Derived.Test.YtpmieapgbdbabaaDoorPureBytes
set_option linter.unusedVariables false
namespace Go.Proofs.YtpmieapgbdbabaaDoor.Pure
open Go.RowKit Go.Proofs.YtpmieapgbdbabaaDoor.QAll Go.Proofs.YtpmieapgbdbabaaDoorW.PrintWords Go.Proofs.YtpmieapgbdbabaaDoorW.PrintLast

theorem awake04b : squelchlaw04_awake.f = some true := by kernel_rfl
theorem call_get (s : ByteArray) (hs : s.size ≤ 1000000) : call_Get.f s = some (getS s) := by
  unfold call_Get.f
  rw [if_pos (by omega)]
theorem j2_bytes (k : Nat) (s : ByteArray) (hs : s.size ≤ 1000000) (hk : 30 ≤ k) : squelchlaw04_CallBytes.j2 k s = some true := by
  obtain ⟨k, rfl⟩ : ∃ k', k = k' + 1 := ⟨k - 1, by omega⟩
  rw [squelchlaw04_CallBytes.j2, call_get s hs, ref_get s k (by omega)]
  simp only [Option.bind_some]
  have he := get_err s
  by_cases h0 : (getS s).2.2.2.2 = 0
  · simp [h0]
  · have he2 := he.resolve_left h0
    have hb : ((getS s).2.2.2.2 == 0) = false := beq_eq_false_iff_ne.2 h0
    rw [hb, if_neg (by simp), he2]
    by_cases h1 : s.size < 7
    · rw [if_pos (by omega)]; simp [h1]
    · rw [if_neg (by omega)]
      by_cases h2 : 7 < s.size
      · rw [if_pos (by omega)]; simp [h1, h2]
      · rw [if_neg (by omega)]; simp [h1, h2]
theorem CallBytes (a0_0 : ByteArray) (a0_1 : Int) (a1_0 a1_1 : Bool) (a2 : ByteArray) (z0 : a0_0.size ≤ 140737488351232) (w0 : (Lit.int .i64 a0_1).wf = true) (z2 : a2.size ≤ 140737488351232) :
    ∃ k, squelchlaw04_CallBytes.f k a0_0 a0_1 a1_0 a1_1 a2 = some true := by
  refine ⟨1000, ?_⟩
  unfold squelchlaw04_CallBytes.f
  rw [awake04b, Option.bind_some, if_pos rfl]
  by_cases h1 : (a0_0.size : Int) > 100
  · rw [if_pos h1]; rfl
  · rw [if_neg h1]
    by_cases h2 : (a2.size : Int) > 100
    · rw [decide_eq_true h2]; rfl
    · rw [decide_eq_false h2, show (1000 : Nat) = 999 + 1 from rfl, squelchlaw04_CallBytes.j0, if_neg (by simp), ref_right _ _ (by omega) _ (by omega)]
      have hj := j2_bytes 998 a2 (by omega) (by omega)
      unfold call_Put.f
      rw [if_pos (by omega)]
      by_cases hr : rightB a0_0 a0_1 = true
      · rw [if_pos hr]
        simp only [Option.bind_some]
        rw [if_pos hr, if_pos trivial, ref_put _ _ hr _ _ _ (by omega), Option.bind_some]
        have e : ((strOfNums (putL a0_0 a0_1 a1_0 a1_1)).toList != (strOfNums (putL a0_0 a0_1 a1_0 a1_1)).toList) = false := by simp
        rw [e, show (999 : Nat) = 998 + 1 from rfl, squelchlaw04_CallBytes.j1, if_neg (by simp), call_get _ (by rw [strOf_size]; simp [putL]), get_put _ _ _ _ hr]
        simp [hj]
      · rw [if_neg hr]
        simp only [Option.bind_some]
        rw [if_neg hr, if_pos (by rw [Go.ByteArray.toList_eq]), if_pos trivial]
        exact j2_bytes 999 a2 (by omega) (by omega)
end Go.Proofs.YtpmieapgbdbabaaDoor.Pure
