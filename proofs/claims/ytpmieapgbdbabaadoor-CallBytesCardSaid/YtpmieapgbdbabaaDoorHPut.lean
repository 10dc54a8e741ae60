/- call.Put, walked by hand: the seven bytes of a right call, or none and ErrCall, for every call. -/
import Derived.Test.YtpmieapgbdbabaaDoorHRight
import Derived.Test.YtpmieapgbdbabaaDoorQAllxF83
import Derived.Deep.RegionWith
set_option linter.unusedVariables false
set_option linter.unusedSimpArgs false
namespace Go.Proofs.YtpmieapgbdbabaaDoor.QAll
open Go.RowKit Go.Proofs.YtpmieapgbdbabaaDoorW.PrintWords Go.Proofs.YtpmieapgbdbabaaDoorW.PrintLast Go.Proofs.YtpmieapgbdbabaaDoorW.PrintMore

/-- The i-th letter's byte. -/
def putAt (s : ByteArray) (i : Nat) : Int := if i < s.size then bt s i * 2 else 64
/-- The last byte. -/
def putEnd (n : Int) (mark last : Bool) : Int := (if mark = true then 128 else 0) + 96 + 2 * n + (if last = true then 1 else 0)
def putL (s : ByteArray) (n : Int) (mark last : Bool) : List Int := [putAt s 0, putAt s 1, putAt s 2, putAt s 3, putAt s 4, putAt s 5, putEnd n mark last]
def call_Put.f (a0_0 : ByteArray) (a0_1 : Int) (a1 a2 : Bool) : Option (ByteArray × Int) :=
  if a0_0.size ≤ 9223372036854775807 then (if rightB a0_0 a0_1 = true then some (strOfNums (putL a0_0 a0_1 a1 a2), 0) else some (⟨#[]⟩, 12)) else none

/-- Behind k rounds: the array in block B. -/
def PutAt (s : ByteArray) (B k : Nat) (w : World) : Prop := ∃ cur, w.heap[B]? = some (.cells cur 128 (0, 0)) ∧ cur.size = 7 ∧ ∀ j : Nat, j < k → cur[j]? = some (.int .u8 (putAt s j))
theorem PutAt.cell {s : ByteArray} {B k : Nat} {w : World} (h : PutAt s B k w) (j : Nat) (hj : j < 7) : ∃ v, w.cell? ⟨B, j, none⟩ = some v := by
  obtain ⟨cur, hb, hm, hc⟩ := h
  simp only [World.cell?, hb]
  exact ⟨cur[j]'(by omega), Array.getElem?_eq_getElem (by omega)⟩
theorem PutAt.frozen {s : ByteArray} {B k : Nat} {w : World} (h : PutAt s B k w) (j : Nat) : w.frozen? ⟨B, j, none⟩ = false := by
  obtain ⟨cur, hb, hm, hc⟩ := h
  simp [World.frozen?, hb]
theorem PutAt.store {s : ByteArray} {B k : Nat} {w : World} (h : PutAt s B k w) (hk : k < 7) (x : Int) (hx : x = putAt s k) : PutAt s B (k + 1) (w.setCell ⟨B, k, none⟩ (.int .u8 x)) := by
  obtain ⟨cur, hb, hm, hc⟩ := h
  refine ⟨cur.setIfInBounds k (.int .u8 x), ?_, by simpa using hm, fun j hj => ?_⟩
  · simp [World.setCell, Array.getElem?_modify, hb]
  · rw [Array.getElem?_setIfInBounds]
    by_cases e : k = j
    · subst e
      rw [if_pos rfl, if_pos (by omega), hx]
    · rw [if_neg e, hc j (by omega)]
theorem PutAt.set {s : ByteArray} {B k : Nat} {w : World} (h : PutAt s B k w) (x : Value) : PutAt s B k (w.setCell ⟨B, k, none⟩ x) := by
  obtain ⟨cur, hb, hm, hc⟩ := h
  refine ⟨cur.setIfInBounds k x, ?_, by simpa using hm, fun j hj => ?_⟩
  · simp [World.setCell, Array.getElem?_modify, hb]
  · rw [Array.getElem?_setIfInBounds, if_neg (by omega), hc j hj]
theorem PutAt.drewN {s : ByteArray} {B k : Nat} {w : World} (h : PutAt s B k w) (n : Nat) : PutAt s B k (w.drewN n) := h
theorem PutAt.drew {s : ByteArray} {B k : Nat} {w : World} (h : PutAt s B k w) : PutAt s B k w.drew := h
theorem lets_le {s : ByteArray} {n : Int} (h : rightB s n = true) (k : Nat) (hk : k < s.size) : 48 ≤ bt s k ∧ bt s k ≤ 90 := by
  unfold rightB letsB at h
  simp only [Bool.and_eq_true, List.all_eq_true] at h
  have := h.1 _ (List.getElem_mem (by simpa using hk : k < s.data.toList.length))
  rw [← bt_data s k hk] at this
  unfold letB at this
  simp only [decide_eq_true_eq] at this
  omega
theorem right_lens {s : ByteArray} {n : Int} (h : rightB s n = true) : 1 ≤ s.size ∧ s.size ≤ 6 ∧ 0 ≤ n ∧ n ≤ 15 := by
  unfold rightB at h
  simpa using (by simpa using h : _ ∧ _).2

def bitI (b : Bool) (v : Int) : Int := if b = true then v else 0
theorem bit_any (b : Bool) (v : Int) (w : World) : Calls Tryd.prog 83 #[.bool b, .int .u8 v] w fun e w' => e = .returned (.int .u8 (bitI b v)) ∧ Drawn0 w w' :=
  call_bit.calls b v (bitI b v) w (by unfold call_bit.f bitI; cases b <;> rfl)
theorem PutAt.list {s : ByteArray} {B : Nat} {w : World} {x : Int} {n : Int} {m l : Bool} (h : PutAt s B 6 w) (hx : x = putEnd n m l) (j : Nat) (hj : j < 7) :
    (w.setCell ⟨B, 6, none⟩ (.int .u8 x)).cell? ⟨B, 0 + j, none⟩ = some (.int .u8 ((putL s n m l).getD j 0)) := by
  obtain ⟨cur, hb, hm, hc⟩ := h
  have hb2 : (w.setCell ⟨B, 6, none⟩ (.int .u8 x)).heap[B]? = some (.cells (cur.setIfInBounds 6 (.int .u8 x)) 128 (0, 0)) := by simp [World.setCell, Array.getElem?_modify, hb]
  simp only [World.cell?, hb2]
  show (cur.setIfInBounds 6 (.int .u8 x))[0 + j]? = _
  rw [Nat.zero_add, Array.getElem?_setIfInBounds]
  by_cases e : 6 = j
  · subst e; rw [if_pos rfl, if_pos (by omega), hx]; rfl
  · rw [if_neg e, hc j (by omega)]
    have : j = 0 ∨ j = 1 ∨ j = 2 ∨ j = 3 ∨ j = 4 ∨ j = 5 := by omega
    rcases this with rfl | rfl | rfl | rfl | rfl | rfl <;> rfl
theorem end_wrap (n : Int) (h0 : 0 ≤ n) (h1 : n ≤ 15) (m l : Bool) : Go.bits .or .u8 (Go.bits .or .u8 (Go.bits .or .u8 (bitI m 128) 96) (n * 2)) (bitI l 1) = putEnd n m l := by
  have h : ∀ n : Fin 16, ∀ m l : Bool, Go.bits .or .u8 (Go.bits .or .u8 (Go.bits .or .u8 (bitI m 128) 96) ((n.val : Int) * 2)) (bitI l 1) = putEnd n.val m l := by decide
  have := h ⟨n.toNat, by omega⟩ m l
  rw [show ((⟨n.toNat, by omega⟩ : Fin 16).val : Int) = n by simp; omega] at this
  exact this
set_option maxHeartbeats 1000000 in
set_option maxRecDepth 100000 in
theorem call_Put.calls (a0_0 : ByteArray) (a0_1 : Int) (a1 a2 : Bool) (r1 : ByteArray) (r2 : Int) (w : World) (h : call_Put.f a0_0 a0_1 a1 a2 = some (r1, r2)) :
    Calls Tryd.prog 52 #[.agg #[.string a0_0, .int .i64 a0_1], .bool a1, .bool a2] w fun e w' => e = .returned (.tuple #[.string r1, .int .i64 r2]) ∧ Below w.heap.size w w' := by
  unfold call_Put.f at h
  split at h
  case isFalse => exact absurd h (by simp)
  rename_i hs
  have hu23 := Tryd.underlying23
  split at h
  · rename_i hr
    have HQ := Aside0.mk hr
    simp only [Option.some.injEq, Prod.mk.injEq] at h
    obtain ⟨rfl, rfl⟩ := h
    clear hr
    go_enter Tryd.func52, Tryd.ntmps52
    go_wp2_with (go_at_call 40; (with_reducible refine (call_Right.calls a0_0 a0_1 true _ (by unfold call_Right.f; rw [if_pos hs, HQ.out])).mono ?_); rintro e w1 ⟨rfl, hb⟩)
    have hz := hb.size
    simp only [World.size_alloc] at hz
    have HB := Aside0.mk (show Below w.heap.size w w1 from below_then ((Below.refl _ _).alloc (Nat.le_refl _) _) (by simp) hb)
    have hc0 : w1.cell? ⟨w.heap.size, 0, none⟩ = some (.string a0_0) := by rw [hb.cell (by simp)]; simp
    have hc1 : w1.cell? ⟨w.heap.size, 1, none⟩ = some (.int .i64 a0_1) := by rw [hb.cell (by simp)]; simp
    clear hb
    have hne : ∀ i j : Nat, (⟨w1.heap.size, i, none⟩ : Addr) ≠ ⟨w.heap.size, j, none⟩ := fun i j e => by injection e; omega
    have HNE := Aside0.mk hne
    clear hne
    go_loopw [13] (fun i wr => ∃ k : Nat, k ≤ 6 ∧ i = .int .i64 k ∧ Aside0 (PutAt a0_0 w1.heap.size k wr) ∧ Aside0 (Below w.heap.size w wr) ∧ (wr.cell? ⟨w.heap.size, 0, none⟩ = some (.string a0_0)) ∧ (wr.cell? ⟨w.heap.size, 1, none⟩ = some (.int .i64 a0_1)))
      (fun i _ => 6 - (intOf i).toNat)
    case atStart =>
      refine ⟨0, by omega, rfl, ⟨⟨_, heap_alloc_new w1 _, rfl, fun j hj => absurd hj (by omega)⟩⟩, ⟨HB.out.alloc HB.out.size _⟩, ?_, ?_⟩
      · rw [World.cell?_alloc_lt w1 _ _ (show w.heap.size < w1.heap.size by omega)]; exact hc0
      · rw [World.cell?_alloc_lt w1 _ _ (show w.heap.size < w1.heap.size by omega)]; exact hc1
    case round =>
      clear hc0 hc1 HB
      obtain ⟨k, hk, rfl, HU, HB, hc0, hc1⟩ := hrel
      by_cases hlt : k < 6
      · obtain ⟨v0, hcell⟩ := HU.out.cell k (by omega)
        have hfz := HU.out.frozen k
        by_cases hin : k < a0_0.size
        · have hx : ∀ h : k < a0_0.size, ((a0_0[k]'h).toNat : Int) = bt a0_0 k := fun h => bt_at a0_0 k h
          have hb2 := lets_le HQ.out k hin
          have HX := Aside0.mk (show bt a0_0 k * 2 = putAt a0_0 k by unfold putAt; rw [if_pos hin])
          go_wp2
          go_roundw
          case rel =>
            refine ⟨k + 1, by omega, by go_num, ⟨(HU.out.set _).store (by omega) _ HX.out⟩, ⟨(HB.out.setCell (by simp; omega) _).setCell (by simp; omega) _⟩, ?_, ?_⟩
            · rw [World.cell?_setCell_other _ _ _ _ (HNE.out _ _), World.cell?_setCell_other _ _ _ _ (HNE.out _ _)]; exact hc0
            · rw [World.cell?_setCell_other _ _ _ _ (HNE.out _ _), World.cell?_setCell_other _ _ _ _ (HNE.out _ _)]; exact hc1
          case measure => simp [intOf]; omega
        · have HX := Aside0.mk (show 64 = putAt a0_0 k by unfold putAt; rw [if_neg hin])
          go_wp2
          go_roundw
          case rel =>
            refine ⟨k + 1, by omega, by go_num, ⟨HU.out.store (by omega) _ HX.out⟩, ⟨HB.out.setCell (by simp; omega) _⟩, ?_, ?_⟩
            · rw [World.cell?_setCell_other _ _ _ _ (HNE.out _ _)]; exact hc0
            · rw [World.cell?_setCell_other _ _ _ _ (HNE.out _ _)]; exact hc1
          case measure => simp [intOf]; omega
      · obtain rfl : k = 6 := by omega
        obtain ⟨v0, hcell⟩ := HU.out.cell 6 (by omega)
        have hfz := HU.out.frozen 6
        have hn0 := (right_lens HQ.out).2.2.1
        have hn15 := (right_lens HQ.out).2.2.2
        have HN0 := Aside0.mk hn0
        have HN15 := Aside0.mk hn15
        go_wp2_with (fail)
        have HE := Aside0.mk (end_wrap a0_1 HN0.out HN15.out a1 a2)
        have hcv := fun (n : Nat) => run_convert_bytes_arg (P := Tryd.prog) ((wr.drewN n).setCell ⟨w1.heap.size, 6, none⟩ (.int .u8 (bits BinOp.or IntKind.u8 (bits BinOp.or IntKind.u8 (bits BinOp.or IntKind.u8 (bitI a1 128) 96) (a0_1 * 2)) (bitI a2 1)))) 104 5 Tryd.underlying104 Tryd.underlying5 w1.heap.size 0 7 7 (putL a0_0 a0_1 a1 a2) rfl
          (fun j hj => (HU.out.drewN n).list HE.out j hj) 9 Tryd.underlying9
        go_region_with ((go_at_call 83; (with_reducible refine (bit_any _ _ _).mono ?_); rintro e w' ⟨rfl, ⟨nd, rfl⟩⟩))
        all_goals (go_wp2; go_ret2; exact ⟨rfl, (pw_below_drewN HB.out _).setCell (show w.heap.size ≤ w1.heap.size by omega) _⟩)
  · rename_i hr
    have HQ := Aside0.mk (show rightB a0_0 a0_1 = false by simpa using hr)
    simp only [Option.some.injEq, Prod.mk.injEq] at h
    obtain ⟨rfl, rfl⟩ := h
    clear hr
    go_enter Tryd.func52, Tryd.ntmps52
    go_wp2_with (go_at_call 40; (with_reducible refine (call_Right.calls a0_0 a0_1 false _ (by unfold call_Right.f; rw [if_pos hs, HQ.out])).mono ?_); rintro e w1 ⟨rfl, hb⟩)
    go_ret2
    exact ⟨rfl, below_then ((Below.refl _ _).alloc (Nat.le_refl _) _) (by simp) hb⟩
end Go.Proofs.YtpmieapgbdbabaaDoor.QAll
