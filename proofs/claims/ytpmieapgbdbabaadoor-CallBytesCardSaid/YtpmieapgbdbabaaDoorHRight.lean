/- call.Right, walked by hand: it tells whether all bytes of the base are letters or digits, and the lengths and the number are in their ranges, for every call. -/
import Derived.Test.YtpmieapgbdbabaaDoorQAllxF68
set_option linter.unusedVariables false
set_option linter.unusedSimpArgs false
namespace Go.Proofs.YtpmieapgbdbabaaDoor.QAll
open Go.RowKit Go.Proofs.YtpmieapgbdbabaaDoorW.PrintWords Go.Proofs.YtpmieapgbdbabaaDoorW.PrintLast Go.Proofs.YtpmieapgbdbabaaDoorW.PrintMore

/-- May the byte c stand in a call? -/
def letB (c : Int) : Bool := decide (65 ≤ c ∧ c ≤ 90 ∨ 48 ≤ c ∧ c ≤ 57)
theorem letter_f (c : Int) : call_letter.f c = some (letB c) := by
  unfold call_letter.f letB
  repeat' split
  all_goals (congr 1; first | exact decide_eq_decide.2 (by omega) | (symm; exact decide_eq_true (by omega)) | (symm; exact decide_eq_false (by omega)))
/-- All of the first k bytes are letters or digits. -/
def letsTo (s : ByteArray) (k : Nat) : Prop := ∀ j : Nat, j < k → letB (bt s j) = true
def letsB (s : ByteArray) : Bool := s.data.toList.all fun c => letB c.toNat
theorem bt_data (s : ByteArray) (j : Nat) (h : j < s.size) : bt s j = ((s.data.toList[j]'(by simpa using h)).toNat : Int) := by
  unfold bt
  rw [dif_pos (by simpa using h)]
  rfl
theorem letsB_true {s : ByteArray} (h : letsTo s s.size) : letsB s = true := by
  unfold letsB
  rw [List.all_eq_true]
  intro c hc
  obtain ⟨j, hj, rfl⟩ := List.getElem_of_mem hc
  have hj' : j < s.size := by simpa using hj
  have := h j hj'
  rw [bt_data s j hj'] at this
  exact this
theorem letsB_false {s : ByteArray} (k : Nat) (hk : k < s.size) (h : letB (bt s k) = false) : letsB s = false := by
  unfold letsB
  rw [List.all_eq_false]
  refine ⟨_, List.getElem_mem (by simpa using hk : k < s.data.toList.length), ?_⟩
  rw [bt_data s k hk] at h
  rw [h]
  decide
def rightB (s : ByteArray) (n : Int) : Bool := letsB s && (decide (1 ≤ s.size) && (decide (s.size ≤ 6) && (decide (0 ≤ n) && decide (n ≤ 15))))
def call_Right.f (a0_0 : ByteArray) (a0_1 : Int) : Option Bool := if a0_0.size ≤ 9223372036854775807 then some (rightB a0_0 a0_1) else none

set_option maxHeartbeats 1000000 in
set_option maxRecDepth 100000 in
theorem call_Right.calls (a0_0 : ByteArray) (a0_1 : Int) (r : Bool) (w : World) (h : call_Right.f a0_0 a0_1 = some r) :
    Calls Tryd.prog 40 #[.agg #[.string a0_0, .int .i64 a0_1]] w fun e w' => e = .returned (.bool r) ∧ Below w.heap.size w w' := by
  unfold call_Right.f at h
  split at h
  case isFalse => exact absurd h (by simp)
  rename_i hs
  have HR := Aside0.mk (Option.some.inj h)
  clear h
  have hu23 := Tryd.underlying23
  have kb := fun W => print_bytes (P := Tryd.prog) 9 104 5 Tryd.underlying9 Tryd.underlying104 Tryd.underlying5 a0_0 W
  go_enter Tryd.func40, Tryd.ntmps40
  go_wp2
  go_loopw [9] (fun i wr => ∃ k : Nat, k ≤ a0_0.size ∧ i = .int .i64 k ∧ Aside0 (letsTo a0_0 k) ∧ Aside0 (Below w.heap.size w wr) ∧ (wr.cell? ⟨w.heap.size, 0, none⟩ = some (.string a0_0)) ∧ (wr.cell? ⟨w.heap.size, 1, none⟩ = some (.int .i64 a0_1)) ∧
      Aside0 (∀ j : Nat, j < a0_0.size → wr.cell? ⟨w.heap.size + 1, j, none⟩ = some (.int .u8 (bt a0_0 j)))) (fun i _ => a0_0.size - (intOf i).toNat)
  case atStart =>
    refine ⟨0, Nat.zero_le _, rfl, ⟨fun j hj => absurd hj (by omega)⟩, ⟨?_⟩, ?_, ?_, ⟨?_⟩⟩
    · exact bytes_below ((Below.refl _ _).alloc (Nat.le_refl _) _) (by simp) _ _
    · rw [Lib.bytesWorld_old _ _ _ _ (by simp)]; simp
    · rw [Lib.bytesWorld_old _ _ _ _ (by simp)]; simp
    · intro j hj
      have z := Lib.bytesWorld_cell (w.alloc (Obj.cells #[Value.string a0_0, Value.int IntKind.i64 a0_1] 23)) 5 a0_0 j hj
      have e : (w.alloc (Obj.cells #[Value.string a0_0, Value.int IntKind.i64 a0_1] 23)).heap.size = w.heap.size + 1 := by simp
      rw [e] at z
      rw [z, bt_data a0_0 j hj, List.getD_eq_getElem?_getD, List.getElem?_eq_getElem (by simpa using hj)]
      rfl
  case round =>
    obtain ⟨k, hk, rfl, HL, HB, hc0, hc1, HC⟩ := hrel
    by_cases hlt : k < a0_0.size
    · have hcell := HC.out k hlt
      have hb := bt_range a0_0 k
      have hcb := Aside0.mk hb
      cases hl : letB (bt a0_0 k) with
      | true =>
        have HL1 := Aside0.mk hl
        clear hl hb
        go_wp2_with (go_at_call 68; (with_reducible refine (call_letter.calls (bt a0_0 k) true _ (by rw [letter_f, HL1.out])).mono ?_); rintro e w' ⟨rfl, ⟨nd, rfl⟩⟩)
        go_roundw
        case rel =>
          refine ⟨k + 1, by omega, by go_num, ⟨fun j hj => ?_⟩, ⟨pw_below_drewN HB.out _⟩, hc0, hc1, ⟨HC.out⟩⟩
          by_cases e : j = k
          · subst e; exact HL1.out
          · exact HL.out j (by omega)
        case measure => simp [intOf]; omega
      | false =>
        have HL1 := Aside0.mk hl
        clear hl hb
        go_wp2_with (go_at_call 68; (with_reducible refine (call_letter.calls (bt a0_0 k) false _ (by rw [letter_f, HL1.out])).mono ?_); rintro e w' ⟨rfl, ⟨nd, rfl⟩⟩)
        go_ret
        refine ⟨?_, pw_below_drewN HB.out _⟩
        have e : rightB a0_0 a0_1 = false := by unfold rightB; rw [letsB_false k hlt HL1.out, Bool.false_and]
        rw [← HR.out, e]; rfl
    · obtain rfl : k = a0_0.size := by omega
      have HX := Aside0.mk (show rightB a0_0 a0_1 = (decide (1 ≤ a0_0.size) && (decide (a0_0.size ≤ 6) && (decide (0 ≤ a0_1) && decide (a0_1 ≤ 15)))) by unfold rightB; rw [letsB_true HL.out, Bool.true_and])
      clear HL hk hlt
      by_cases h1 : 1 ≤ a0_0.size
      · by_cases h2 : a0_0.size ≤ 6
        · by_cases h3 : 0 ≤ a0_1
          · by_cases h4 : a0_1 ≤ 15
            · have HE := Aside0.mk (show rightB a0_0 a0_1 = true by rw [HX.out]; simp [h1, h2, h3, h4])
              go_wp2
              go_ret
              exact ⟨by rw [← HR.out, HE.out]; rfl, HB.out⟩
            · have HE := Aside0.mk (show rightB a0_0 a0_1 = false by rw [HX.out]; simp [h1, h2, h3, h4])
              go_wp2
              go_ret
              exact ⟨by rw [← HR.out, HE.out]; rfl, HB.out⟩
          · have HE := Aside0.mk (show rightB a0_0 a0_1 = false by rw [HX.out]; simp [h1, h2, h3])
            go_wp2
            go_ret
            exact ⟨by rw [← HR.out, HE.out]; rfl, HB.out⟩
        · have HE := Aside0.mk (show rightB a0_0 a0_1 = false by rw [HX.out]; simp [h1, h2])
          go_wp2
          go_ret
          exact ⟨by rw [← HR.out, HE.out]; rfl, HB.out⟩
      · have HE := Aside0.mk (show rightB a0_0 a0_1 = false by rw [HX.out]; simp [h1])
        go_wp2
        go_ret
        exact ⟨by rw [← HR.out, HE.out]; rfl, HB.out⟩
end Go.Proofs.YtpmieapgbdbabaaDoor.QAll
