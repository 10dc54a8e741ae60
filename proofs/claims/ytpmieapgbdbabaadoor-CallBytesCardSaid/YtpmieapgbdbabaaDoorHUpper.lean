/- call.upper, walked by hand: a word with its small letters made great, for every word. -/
import Derived.Test.YtpmieapgbdbabaaDoorQAllx0
set_option linter.unusedVariables false
set_option linter.unusedSimpArgs false
namespace Go.Proofs.YtpmieapgbdbabaaDoor.QAll
open Go.RowKit Go.Proofs.YtpmieapgbdbabaaDoorW.PrintWords Go.Proofs.YtpmieapgbdbabaaDoorW.PrintLast Go.Proofs.YtpmieapgbdbabaaDoorW.PrintMore

/-- A small letter made great. -/
def upI (c : Int) : Int := if 97 ≤ c ∧ c ≤ 122 then c - 97 + 65 else c
def upL (s : ByteArray) : List Int := (bytesOf s).map upI
def upperS (s : ByteArray) : ByteArray := strOfNums (upL s)
def call_upper.f (a0 : ByteArray) : Option ByteArray := if a0.size ≤ 9223372036854775807 then some (upperS a0) else none
/-- Behind k rounds: block B holds the first k made great, the others as they were. -/
def UpAt (s : ByteArray) (B k : Nat) (w : World) : Prop := ∃ cur m, w.heap[B]? = some (.cells cur 5 (m, m + 1)) ∧ s.size ≤ m ∧
  ∀ j : Nat, j < s.size → cur[j]? = some (.int .u8 (if j < k then upI (bt s j) else bt s j))
theorem UpAt.cell {s : ByteArray} {B k : Nat} {w : World} (h : UpAt s B k w) (j : Nat) (hj : j < s.size) : w.cell? ⟨B, j, none⟩ = some (.int .u8 (if j < k then upI (bt s j) else bt s j)) := by
  obtain ⟨cur, m, hb, hm, hc⟩ := h
  simp only [World.cell?, hb]
  exact hc j hj
theorem UpAt.frozen {s : ByteArray} {B k : Nat} {w : World} (h : UpAt s B k w) (j : Nat) (hj : j < s.size) : w.frozen? ⟨B, j, none⟩ = false := by
  obtain ⟨cur, m, hb, hm, hc⟩ := h
  simp only [World.frozen?, hb]
  simp
  omega
theorem UpAt.keep {s : ByteArray} {B k : Nat} {w : World} (h : UpAt s B k w) (hk : upI (bt s k) = bt s k) : UpAt s B (k + 1) w := by
  obtain ⟨cur, m, hb, hm, hc⟩ := h
  refine ⟨cur, m, hb, hm, fun j hj => ?_⟩
  rw [hc j hj]
  by_cases e : j = k
  · subst e; rw [if_neg (by omega), if_pos (by omega), hk]
  · by_cases e2 : j < k
    · rw [if_pos e2, if_pos (by omega)]
    · rw [if_neg e2, if_neg (by omega)]
theorem UpAt.store {s : ByteArray} {B k : Nat} {w : World} (h : UpAt s B k w) (hk : k < s.size) (x : Int) (hx : x = upI (bt s k)) : UpAt s B (k + 1) (w.setCell ⟨B, k, none⟩ (.int .u8 x)) := by
  obtain ⟨cur, m, hb, hm, hc⟩ := h
  refine ⟨cur.setIfInBounds k (.int .u8 x), m, ?_, hm, fun j hj => ?_⟩
  · simp [World.setCell, Array.getElem?_modify, hb]
  · rw [Array.getElem?_setIfInBounds]
    have hcj := hc j hj
    by_cases e : k = j
    · subst e
      have : k < cur.size := (Array.getElem?_eq_some_iff.1 hcj).1
      rw [if_pos rfl, if_pos this, if_pos (by omega), hx]
    · rw [if_neg e, hcj]
      by_cases e2 : j < k
      · rw [if_pos e2, if_pos (by omega)]
      · rw [if_neg e2, if_neg (by omega)]
theorem UpAt.new (s : ByteArray) (w : World) : UpAt s w.heap.size 0 (Lib.bytesWorld w 5 s) := by
  refine ⟨_, _, Lib.bytesWorld_at_new w 5 s, ?_, fun j hj => ?_⟩
  · simp [Lib.bytesCells]
  · have h := Lib.bytesWorld_cell w 5 s j hj
    simp only [World.cell?, Lib.bytesWorld_at_new] at h
    rw [if_neg (by omega)]
    have e : (s.data.toList.getD j 0).toNat = bt s j := by
      unfold bt
      rw [dif_pos (by simpa using hj), List.getD_eq_getElem?_getD, List.getElem?_eq_getElem (by simpa using hj)]
      rfl
    rw [← e]
    simpa using h

set_option maxHeartbeats 1000000 in
set_option maxRecDepth 100000 in
theorem call_upper.calls (a0 : ByteArray) (r : ByteArray) (w : World) (h : call_upper.f a0 = some r) :
    Calls Tryd.prog 71 #[.string a0] w fun e w' => e = .returned (.string r) ∧ Below w.heap.size w w' := by
  unfold call_upper.f at h
  split at h
  case isFalse => exact absurd h (by simp)
  rename_i hs
  have HR := Aside0.mk (Option.some.inj h)
  clear h
  have kb := fun W => print_bytes (P := Tryd.prog) 9 104 5 Tryd.underlying9 Tryd.underlying104 Tryd.underlying5 a0 W
  go_enter Tryd.func71, Tryd.ntmps71
  go_wp2
  go_loopw [10] (fun i wr => ∃ k : Nat, k ≤ a0.size ∧ i = .int .i64 k ∧ Aside0 (UpAt a0 w.heap.size k wr) ∧ Aside0 (Below w.heap.size w wr)) (fun i _ => a0.size - (intOf i).toNat)
  case atStart => exact ⟨0, Nat.zero_le _, rfl, ⟨UpAt.new a0 w⟩, ⟨bytes_below (Below.refl _ _) (Nat.le_refl _) _ _⟩⟩
  case round =>
    obtain ⟨k, hk, rfl, HU, HB⟩ := hrel
    by_cases hlt : k < a0.size
    · have hcell := HU.out.cell k hlt
      rw [if_neg (by omega)] at hcell
      have hfz := HU.out.frozen k hlt
      have hb := bt_range a0 k
      by_cases h1 : 97 ≤ bt a0 k
      · by_cases h2 : bt a0 k ≤ 122
        · have HX := Aside0.mk (show bt a0 k - 97 + 65 = upI (bt a0 k) by unfold upI; rw [if_pos ⟨h1, h2⟩])
          go_wp2
          go_roundw
          case rel => exact ⟨k + 1, by omega, by go_num, ⟨HU.out.store hlt _ HX.out⟩, ⟨HB.out.setCell (Nat.le_refl _) _⟩⟩
          case measure => simp [intOf]; omega
        · have HX := Aside0.mk (show upI (bt a0 k) = bt a0 k by unfold upI; rw [if_neg (by omega)])
          go_wp2
          go_roundw
          case rel => exact ⟨k + 1, by omega, by go_num, ⟨HU.out.keep HX.out⟩, ⟨HB.out⟩⟩
          case measure => simp [intOf]; omega
      · have HX := Aside0.mk (show upI (bt a0 k) = bt a0 k by unfold upI; rw [if_neg (by omega)])
        go_wp2
        go_roundw
        case rel => exact ⟨k + 1, by omega, by go_num, ⟨HU.out.keep HX.out⟩, ⟨HB.out⟩⟩
        case measure => simp [intOf]; omega
    · obtain rfl : k = a0.size := by omega
      have hcv := fun (c : Nat) => run_convert_bytes_arg (P := Tryd.prog) wr 104 5 Tryd.underlying104 Tryd.underlying5 w.heap.size 0 a0.size c (upL a0) (by simp [upL]; exact bytesOf_length a0) (fun j hj => by
        have z := HU.out.cell j hj
        rw [if_pos hj] at z
        rw [Nat.zero_add, z]
        unfold upL
        rw [List.getD_eq_getElem?_getD, List.getElem?_map, List.getElem?_eq_getElem (by rw [bytesOf_length]; exact hj)]
        have e : (bytesOf a0)[j]'(by rw [bytesOf_length]; exact hj) = bt a0 j := by
          unfold bt
          rw [dif_pos (by simpa using hj)]
          simp [bytesOf]
          rfl
        rw [e]
        rfl) 9 Tryd.underlying9
      go_wp2
      go_ret
      exact ⟨by rw [← HR.out]; rfl, HB.out⟩
end Go.Proofs.YtpmieapgbdbabaaDoor.QAll
