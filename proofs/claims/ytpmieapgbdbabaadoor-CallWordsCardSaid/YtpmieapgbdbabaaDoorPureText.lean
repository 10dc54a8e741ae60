/- What a right call's word is, and that it is read as the call; over plain strings and numbers. -/
import Derived.Test.YtpmieapgbdbabaaDoorPureParse
import Derived.Test.YtpmieapgbdbabaaDoorQAllxF41
set_option linter.unusedVariables false
namespace Go.Proofs.YtpmieapgbdbabaaDoor.Pure
open Go.RowKit Go.Proofs.YtpmieapgbdbabaaDoor.QAll Go.Proofs.YtpmieapgbdbabaaDoorW.PrintWords Go.Proofs.YtpmieapgbdbabaaDoorW.PrintLast

theorem right_parts {s : ByteArray} {n : Int} (h : rightB s n = true) : (∀ c ∈ s.toList, (65 ≤ c.toNat ∧ c.toNat ≤ 90) ∨ (48 ≤ c.toNat ∧ c.toNat ≤ 57)) ∧ 1 ≤ s.size ∧ s.size ≤ 6 ∧ 0 ≤ n ∧ n ≤ 15 := by
  unfold rightB at h
  simp only [Bool.and_eq_true, decide_eq_true_eq] at h
  refine ⟨fun c hc => ?_, h.2⟩
  have h1 := h.1
  unfold letsB at h1
  rw [← Go.ByteArray.toList_eq] at h1
  have := List.all_eq_true.1 h1 c hc
  unfold letB at this
  simp only [decide_eq_true_eq] at this
  omega
/-- A right call's word. -/
def textS (s : ByteArray) (n : Int) : ByteArray := if n = 0 then s else (s ++ (⟨#[45]⟩ : ByteArray)) ++ ⟨(digs n.toNat).toArray⟩
theorem digs_len (n : Nat) : (digs n).length ≤ 2 := by unfold digs; split <;> simp
theorem digs_size (n : Nat) : (⟨(digs n).toArray⟩ : ByteArray).size ≤ 2 := by
  have := digs_len n
  show (digs n).toArray.size ≤ 2
  simpa using this
theorem text_size (s : ByteArray) (n : Int) : (textS s n).size ≤ s.size + 3 := by
  unfold textS
  split
  · omega
  · have := digs_size n.toNat
    simp only [ByteArray.size_append]
    have h1 : (⟨#[45]⟩ : ByteArray).size = 1 := rfl
    omega
theorem call_text (s : ByteArray) (n : Int) (hs : s.size ≤ 1000000) : call_Text.f s n = some (if rightB s n = true then textS s n else ⟨#[]⟩) := by
  unfold call_Text.f call_Right.f
  rw [if_pos (by omega), Option.bind_some]
  by_cases hr : rightB s n = true
  · rw [if_pos hr, if_pos hr]
    unfold textS
    by_cases h0 : n = 0
    · rw [if_pos h0, if_pos h0]
    · obtain ⟨_, _, _, h1, h2⟩ := right_parts hr
      obtain ⟨m, rfl⟩ := Int.eq_ofNat_of_zero_le h1
      have hd := digs_size m
      rw [if_neg h0, if_neg h0, if_pos (by omega)]
      unfold strconv_Itoa_69.f
      rw [if_pos (by omega), Option.bind_some, show ((m : Int)).toNat = m from by omega, digs_dec m (by omega)]
      rw [if_pos (by
        simp only [ByteArray.size_append]
        have h1 : (⟨#[45]⟩ : ByteArray).size = 1 := rfl
        omega)]
  · rw [if_neg hr, if_neg hr]
theorem ref_text (s : ByteArray) (n : Int) (hr : rightB s n = true) : squelchref04_Text.f s n = some (textS s n) := by
  obtain ⟨_, _, h3, h1, h2⟩ := right_parts hr
  unfold squelchref04_Text.f textS
  by_cases h0 : n = 0
  · rw [if_pos h0, if_pos h0]
  · obtain ⟨m, rfl⟩ := Int.eq_ofNat_of_zero_le h1
    have hd := digs_size m
    rw [if_neg h0, if_neg h0, if_pos (by omega), ref_digits m (by omega), Option.bind_some, show ((m : Int)).toNat = m from by omega]
    rw [if_pos (by
      simp only [ByteArray.size_append]
      have h1 : (⟨#[45]⟩ : ByteArray).size = 1 := rfl
      omega)]
theorem index_app : ∀ (l r : List UInt8), (∀ c ∈ l, c ≠ 45) → Lib.indexByte (l ++ 45 :: r) 45 = l.length
  | [], r, _ => by simp [Lib.indexByte]
  | c :: l, r, h => by
    have ih := index_app l r (fun x hx => h x (List.mem_cons_of_mem _ hx))
    have hc : (c == 45) = false := beq_eq_false_iff_ne.2 (h c (List.mem_cons_self ..))
    simp only [List.cons_append, Lib.indexByte, hc, ih]
    rw [if_neg (by simp), if_neg (by rw [beq_iff_eq]; omega)]
    simp
theorem index_no : ∀ (l : List UInt8), (∀ c ∈ l, c ≠ 45) → Lib.indexByte l 45 = -1
  | [], _ => rfl
  | c :: l, h => by
    have ih := index_no l (fun x hx => h x (List.mem_cons_of_mem _ hx))
    have hc : (c == 45) = false := beq_eq_false_iff_ne.2 (h c (List.mem_cons_self ..))
    simp only [Lib.indexByte, hc, ih]
    rfl
theorem parse_text (s : ByteArray) (n : Int) (hr : rightB s n = true) : parseS (textS s n) = (s, n, 0) := by
  obtain ⟨hl, _, h3, h1, h2⟩ := right_parts hr
  have h45 : ∀ c ∈ s.toList, c ≠ 45 := fun c hc e => by
    have := hl c hc
    subst e
    simp at this
  by_cases h0 : n = 0
  · subst h0
    have ht : textS s 0 = s := by unfold textS; rw [if_pos rfl]
    have hu : upperS s = s := ba_eq (by rw [upper_list]; exact up_fix _ fun c hc => by have := hl c hc; omega)
    rw [ht]
    have hH : cutHas s 45 = false := by unfold cutHas; rw [← Go.ByteArray.toList_eq, index_no _ h45]; rfl
    have hA : cutA s 45 = s := by unfold cutA; rw [hH]; rfl
    unfold parseS
    simp only [hu, hH, hA, hr]
    rfl
  · obtain ⟨m, rfl⟩ := Int.eq_ofNat_of_zero_le h1
    have hm : m < 16 := by omega
    have hd : ∀ c ∈ digs m, c.toNat < 65 := fun c hc => of_decide_eq_true (List.all_eq_true.1 (List.all_eq_true.1 digs_small_all m (List.mem_range.2 hm)) c hc)
    have htl : (textS s (m : Int)).toList = s.toList ++ 45 :: digs m := by
      unfold textS
      rw [if_neg h0, toList_app, toList_app, show ((m : Int)).toNat = m from by omega]
      have e1 : (⟨#[45]⟩ : ByteArray).toList = [45] := by rw [Go.ByteArray.toList_eq]
      have e2 : (⟨(digs m).toArray⟩ : ByteArray).toList = digs m := by rw [Go.ByteArray.toList_eq]
      rw [e1, e2]
      simp
    generalize hT : textS s (m : Int) = t at htl ⊢
    have hu : upperS t = t := ba_eq (by
      rw [upper_list]
      refine up_fix _ fun c hc => ?_
      rw [htl] at hc
      rcases List.mem_append.1 hc with hc | hc
      · have := hl c hc; omega
      · rcases List.mem_cons.1 hc with rfl | hc
        · decide
        · have := hd c hc; omega)
    have hix : Lib.indexByte t.data.toList 45 = (s.toList.length : Int) := by rw [← Go.ByteArray.toList_eq, htl, index_app _ _ h45]
    have hH : cutHas t 45 = true := by unfold cutHas; rw [hix]; exact decide_eq_true (by omega)
    have hI : idxOf t 45 = s.toList.length := by unfold idxOf; rw [hix]; rfl
    have hA : cutA t 45 = s := ba_eq (by
      unfold cutA; rw [if_pos hH, hI, toList_ext, htl, List.drop_zero, List.take_left'] <;> rfl)
    have hB : (cutB t 45).toList = digs m := by
      unfold cutB
      rw [if_pos hH, hI, toList_ext, List.take_of_length_le (by rw [len_eq]; omega), htl]
      have : s.toList ++ 45 :: digs m = (s.toList ++ [45]) ++ digs m := by simp
      rw [this, List.drop_left' (by simp)]
    unfold parseS
    simp only [hu, hH, hA, numOf_digs _ m hm hB, hr]
    rfl
end Go.Proofs.YtpmieapgbdbabaaDoor.Pure
