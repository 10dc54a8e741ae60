/- A call's seven bytes, as the reference says them, and the call that is read of seven bytes; over plain strings and numbers. -/
import Derived.Test.YtpmieapgbdbabaaDoorPureParse
import Derived.Test.YtpmieapgbdbabaaDoorQAllxF53
import Derived.Test.YtpmieapgbdbabaaDoorQAllxF55
import Derived.Test.YtpmieapgbdbabaaDoorHGet
import Derived.KernelRfl
set_option linter.unusedVariables false
namespace Go.Proofs.YtpmieapgbdbabaaDoor.Pure
open Go.RowKit Go.Proofs.YtpmieapgbdbabaaDoor.QAll Go.Proofs.YtpmieapgbdbabaaDoorW.PrintWords Go.Proofs.YtpmieapgbdbabaaDoorW.PrintLast

/-! ### Put -/
def pAt (s : ByteArray) (i j : Nat) : Int := if j < i then bt s (j : Int) * 2 else 64
def pRow (s : ByteArray) (i : Nat) (e : Int) : List Int := [pAt s i 0, pAt s i 1, pAt s i 2, pAt s i 3, pAt s i 4, pAt s i 5, e]
theorem pRow_set (s : ByteArray) (i : Nat) (hi : i < 6) (e x : Int) (hx : x = bt s (i : Int) * 2) : (pRow s i e).set i x = pRow s (i + 1) e := by
  have h : i = 0 ∨ i = 1 ∨ i = 2 ∨ i = 3 ∨ i = 4 ∨ i = 5 := by omega
  rcases h with rfl | rfl | rfl | rfl | rfl | rfl <;> subst hx <;> simp [pRow, pAt]
theorem put_end (m l : Bool) (n : Int) (h0 : 0 ≤ n) (h1 : n ≤ 15) : ∀ k x1 : Bool, k = m → x1 = l →
    (if m = true then (if l = true then ((96 + 2 * n + 128) % 256 + 1) % 256 else (96 + 2 * n + 128) % 256) else (if l = true then (96 + 2 * n + 1) % 256 else 96 + 2 * n)) = putEnd n m l := by
  intro _ _ _ _
  unfold putEnd
  cases m <;> cases l <;> simp <;> omega
theorem ref_put_l (s : ByteArray) (n : Int) (hr : rightB s n = true) (m l : Bool) (e : Int) (he : e = 96 + 2 * n) : ∀ (d i k : Nat), s.size - i ≤ d → d + 1 ≤ k → i ≤ s.size →
    squelchref04_Put.l0 k m l (pRow s i e) (i : Int) s n = some (strOfNums (pRow s s.size (putEnd n m l)))
  | d, i, 0, _, hk, _ => absurd hk (by omega)
  | d, i, k + 1, hd, hk, hi => by
    have hl := right_lens hr
    rw [squelchref04_Put.l0]
    by_cases h : i < s.size
    · obtain ⟨d', rfl⟩ : ∃ d', d = d' + 1 := ⟨d - 1, by omega⟩
      have hb := lets_le hr i h
      rw [if_pos (by omega), if_pos (by omega), if_pos (by simp [pRow]; omega), wrap_succ i (by omega), show ((i : Int)).toNat = i from by omega, pRow_set s i (by omega) e _ (by omega)]
      exact ref_put_l s n hr m l e he d' (i + 1) k (by omega) (by omega) (by omega)
    · obtain rfl : i = s.size := by omega
      rw [if_neg (by omega)]
      subst he
      have hlen : (6 : Int) < ((pRow s s.size (96 + 2 * n)).length : Int) := by simp [pRow]
      have hlast : ∀ x y : Int, (pRow s s.size x).set (6 : Int).toNat y = pRow s s.size y := fun x y => by simp [pRow]
      have hrd : ∀ x : Int, rd (pRow s s.size x) 6 = x := fun x => by
        unfold rd; simp [pRow]
      have hp := put_end m l n hl.2.2.1 hl.2.2.2 m l rfl rfl
      cases m <;> cases l <;> simp only [Bool.false_eq_true, if_true, if_false, Option.bind_some, hlen, hlast, hrd] at hp ⊢ <;> first | rw [← hp] | skip
theorem ref_put (s : ByteArray) (n : Int) (hr : rightB s n = true) (m l : Bool) (k : Nat) (hk : 10 ≤ k) : squelchref04_Put.f k s n m l = some (strOfNums (putL s n m l)) := by
  have hl := right_lens hr
  unfold squelchref04_Put.f
  have h := ref_put_l s n hr m l (96 + 2 * n) rfl 6 0 k (by omega) (by omega) (by omega)
  have e1 : (wrap64 (96 + (wrap64 (2 * n)))) % 256 = 96 + 2 * n := by unfold wrap64; omega
  rw [e1]
  have e2 : pRow s 0 (96 + 2 * n) = [64, 64, 64, 64, 64, 64, 96 + 2 * n] := by simp [pRow, pAt]
  rw [e2] at h
  rw [show ((0 : Nat) : Int) = 0 from rfl] at h
  rw [h]
  congr 2

/-! ### Get -/
theorem strOf_list (xs : List Int) : (strOfNums xs).toList = xs.map fun n => UInt8.ofNat n.toNat := by
  rw [Go.ByteArray.toList_eq]; rfl
theorem strOf_size (xs : List Int) : (strOfNums xs).size = xs.length := by rw [← len_eq, strOf_list, List.length_map]
theorem bt_strOf (xs : List Int) (j : Nat) (hj : j < xs.length) (h : 0 ≤ xs[j] ∧ xs[j] ≤ 255) : bt (strOfNums xs) (j : Int) = xs[j] := by
  rw [bt_data _ j (by rw [strOf_size]; exact hj)]
  have : (strOfNums xs).data.toList[j]'(by simpa [strOfNums] using hj) = UInt8.ofNat (xs[j]).toNat := by simp [strOfNums]
  rw [this, UInt8.toNat_ofNat']
  omega
theorem put_bt (s : ByteArray) (n : Int) (m l : Bool) (hr : rightB s n = true) (j : Nat) (hj : j < 6) : bt (strOfNums (putL s n m l)) (j : Int) = putAt s j := by
  have hx : (putL s n m l)[j]'(by simp [putL]; omega) = putAt s j := by
    have h : j = 0 ∨ j = 1 ∨ j = 2 ∨ j = 3 ∨ j = 4 ∨ j = 5 := by omega
    rcases h with rfl | rfl | rfl | rfl | rfl | rfl <;> rfl
  have hp : 0 ≤ putAt s j ∧ putAt s j ≤ 255 := by
    unfold putAt
    split
    · rename_i h; have := lets_le hr j h; omega
    · omega
  rw [bt_strOf _ j (by simp [putL]; omega) (by rw [hx]; exact hp), hx]
theorem put_bt6 (s : ByteArray) (n : Int) (m l : Bool) (hr : rightB s n = true) : bt (strOfNums (putL s n m l)) 6 = putEnd n m l := by
  have h := right_lens hr
  have hp : 0 ≤ putEnd n m l ∧ putEnd n m l ≤ 255 := by unfold putEnd; cases m <;> cases l <;> simp <;> omega
  have := bt_strOf (putL s n m l) 6 (by simp [putL]) hp
  exact this
theorem get_base (s : ByteArray) (n : Int) (m l : Bool) (hr : rightB s n = true) : getBase (strOfNums (putL s n m l)) = s := by
  have hl := right_lens hr
  apply ba_eq
  unfold getBase
  rw [Go.ByteArray.toList_eq]
  show Lib.trimRightB _ 32 = _
  have hlist : (strOfNums (halfL (strOfNums (putL s n m l)) 6)).data.toList = s.toList ++ List.replicate (6 - s.size) 32 := by
    rw [← Go.ByteArray.toList_eq, strOf_list]
    unfold halfL
    rw [List.map_map]
    apply List.ext_getElem
    · simp [len_eq]; omega
    · intro j h1 h2
      have hj : j < 6 := by simpa using h1
      simp only [List.getElem_map, List.getElem_range, Function.comp]
      rw [put_bt s n m l hr j hj]
      unfold putAt
      by_cases h : j < s.size
      · have hb := lets_le hr j h
        rw [if_pos h, List.getElem_append_left (by rw [len_eq]; exact h)]
        have hbd := bt_data s j h
        have hd : (bt s (j : Int) * 2 / 2).toNat = (s.data.toList[j]'(by simpa using h)).toNat := by omega
        rw [hd]
        simp only [Go.ByteArray.toList_eq]
        simp
      · rw [if_neg h, List.getElem_append_right (by rw [len_eq]; omega), List.getElem_replicate]
        rfl
  rw [hlist, Lib.trimRightB_take _ 32 s.size (by simp [len_eq]) ?_ ?_, List.take_left' (len_eq s)]
  · intro j b hj hb
    rw [List.getElem?_append_right (by rw [len_eq]; exact hj)] at hb
    exact (List.mem_replicate.1 (List.mem_of_getElem? hb)).2
  · intro b h0 hb
    rw [List.getElem?_append_left (by rw [len_eq]; omega)] at hb
    have hb2 := lets_le hr (s.size - 1) (by omega)
    rw [bt_data s (s.size - 1) (by omega)] at hb2
    rw [Go.ByteArray.toList_eq, List.getElem?_eq_getElem (by simp; omega)] at hb
    rintro rfl
    have := Option.some.inj hb
    rw [this] at hb2
    simp at hb2
theorem end_parts (n : Int) (h0 : 0 ≤ n) (h1 : n ≤ 15) (m l : Bool) : putEnd n m l / 2 % 16 = n ∧ decide (128 ≤ putEnd n m l) = m ∧ decide (putEnd n m l % 2 = 1) = l := by
  unfold putEnd
  cases m <;> cases l <;> simp <;> omega
theorem get_put (s : ByteArray) (n : Int) (m l : Bool) (hr : rightB s n = true) : getS (strOfNums (putL s n m l)) = (s, n, m, l, 0) := by
  have hl := right_lens hr
  have hsz : (strOfNums (putL s n m l)).size = 7 := by rw [strOf_size]; rfl
  obtain ⟨e1, e2, e3⟩ := end_parts n hl.2.2.1 hl.2.2.2 m l
  unfold getS
  rw [if_neg (by omega), if_neg (by omega), put_bt6 s n m l hr, get_base s n m l hr, e1, e2, e3, if_pos ⟨hr, rfl⟩]
/-- What the reference gathers of the first six bytes. -/
def refB (s : ByteArray) (i : Nat) : List UInt8 := ((s.toList.take i).filter fun c => decide (c.toNat ≠ 64)).map fun c => UInt8.ofNat (c.toNat / 2)
theorem refB_len (s : ByteArray) (i : Nat) : (refB s i).length ≤ i := by
  unfold refB
  rw [List.length_map]
  have h1 := (List.filter_sublist (l := s.toList.take i) (p := fun c => decide (c.toNat ≠ 64))).length_le
  have h2 := List.length_take_le i s.toList
  omega
theorem ref_get_l (s : ByteArray) (hs : s.size = 7) (n : Int) (K : Nat) (R : Option (ByteArray × Int × Bool × Bool × Bool))
    (hR : ∀ (k : Nat) (b : ByteArray), K ≤ k → b.toList = refB s 6 → squelchref04_Get.l0 k s 6 b n = R) : ∀ (d i k : Nat) (b : ByteArray), 6 - i ≤ d → i ≤ 6 → d + K ≤ k → b.toList = refB s i →
    squelchref04_Get.l0 k s (i : Int) b n = R
  | 0, i, k, b, hd, hi, hk, hb => by
    obtain rfl : i = 6 := by omega
    exact hR k b (by omega) hb
  | d + 1, i, 0, b, hd, hi, hk, hb => absurd hk (by omega)
  | d + 1, i, k + 1, b, hd, hi, hk, hb => by
    by_cases e : i = 6
    · subst e; exact hR (k + 1) b (by omega) hb
    · have h : i < s.size := by omega
      obtain ⟨c, r, e1, e2, e3⟩ := bt_at s i h
      have hc : s.toList[i]? = some c := by
        have := congrArg (·[0]?) e1
        simpa using this
      have ht : s.toList.take (i + 1) = s.toList.take i ++ [c] := by rw [List.take_add_one, hc]; rfl
      have hbs : b.size ≤ i := by rw [← len_eq, hb]; exact refB_len s i
      rw [squelchref04_Get.l0, if_pos (by omega), if_pos (by omega), if_pos (by omega), e3, wrap_succ i (by omega)]
      by_cases h64 : (c.toNat : Int) = 64
      · rw [if_pos h64]
        refine ref_get_l s hs n K R hR d (i + 1) k b (by omega) (by omega) (by omega) ?_
        unfold refB at hb ⊢
        rw [ht, List.filter_append, hb]
        have : (List.filter (fun c => decide (c.toNat ≠ 64)) [c]) = [] := by
          rw [List.filter_cons_of_neg (by simp; omega)]; rfl
        rw [this, List.append_nil]
      · rw [if_neg h64]
        simp only [Option.bind_some]
        rw [if_pos (by have : ∀ x, (strOfNums [x]).size = 1 := fun _ => rfl
                       rw [this]; omega)]
        refine ref_get_l s hs n K R hR d (i + 1) k _ (by omega) (by omega) (by omega) ?_
        rw [toList_app, strOf_one, hb]
        unfold refB
        rw [ht, List.filter_append, List.map_append]
        have : (List.filter (fun c => decide (c.toNat ≠ 64)) [c]) = [c] := by
          rw [List.filter_cons_of_pos (by simp; omega)]; rfl
        rw [this]
        congr 1
        have hcl := c.toNat_lt
        rw [Int.tdiv_eq_ediv_of_nonneg (by omega)]
        simp only [List.map_cons, List.map_nil]
        congr 2
        omega
theorem ref_base (s : ByteArray) (n : Int) (m l : Bool) (hr : rightB s n = true) : refB (strOfNums (putL s n m l)) 6 = s.toList := by
  have hl := right_lens hr
  have hlist : (strOfNums (putL s n m l)).toList.take 6 = (s.toList.map fun c => UInt8.ofNat (c.toNat * 2)) ++ List.replicate (6 - s.size) 64 := by
    have hlen6 : ((strOfNums (putL s n m l)).toList.take 6).length = 6 := by rw [List.length_take, len_eq, strOf_size]; rfl
    apply List.ext_getElem
    · rw [hlen6]; simp [len_eq]; omega
    · intro j h1 h2
      have hj : j < 6 := by omega
      have hb := put_bt s n m l hr j hj
      rw [bt_data _ j (by rw [strOf_size]; simp [putL]; omega)] at hb
      rw [List.getElem_take]
      simp only [Go.ByteArray.toList_eq] at hb ⊢
      generalize hx : (strOfNums (putL s n m l)).data.toList[j]'_ = x at hb ⊢
      have hxl := x.toNat_lt
      unfold putAt at hb
      by_cases h : j < s.size
      · have hb2 := lets_le hr j h
        rw [if_pos h, bt_data s j h] at hb
        rw [bt_data s j h] at hb2
        rw [List.getElem_append_left (by simpa using h), List.getElem_map]
        apply UInt8.toNat_inj.1
        rw [UInt8.toNat_ofNat']
        omega
      · rw [if_neg h] at hb
        rw [List.getElem_append_right (by simp; omega), List.getElem_replicate]
        apply UInt8.toNat_inj.1
        show x.toNat = 64
        omega
  have hq : ∀ c ∈ s.toList, 48 ≤ c.toNat ∧ c.toNat ≤ 90 := fun c hc => by
    unfold rightB letsB at hr
    simp only [Bool.and_eq_true, List.all_eq_true] at hr
    rw [Go.ByteArray.toList_eq] at hc
    have := hr.1 c hc
    unfold letB at this
    simp only [decide_eq_true_eq] at this
    omega
  unfold refB
  rw [hlist, List.filter_append, List.map_append]
  have h2 : List.filter (fun c => decide (c.toNat ≠ 64)) (List.replicate (6 - s.size) (64 : UInt8)) = [] := by
    rw [List.filter_eq_nil_iff]
    intro c hc
    rw [(List.mem_replicate.1 hc).2]
    simp
  have h1 : List.filter (fun c => decide (c.toNat ≠ 64)) (s.toList.map fun c => UInt8.ofNat (c.toNat * 2)) = s.toList.map fun c => UInt8.ofNat (c.toNat * 2) := by
    rw [List.filter_eq_self]
    intro c hc
    obtain ⟨x, hx, rfl⟩ := List.mem_map.1 hc
    have := hq x hx
    simp only [UInt8.toNat_ofNat', decide_eq_true_eq]
    omega
  rw [h2, h1, List.map_nil, List.append_nil, List.map_map]
  conv => rhs; rw [← List.map_id s.toList]
  apply List.map_congr_left
  intro c hc
  have := hq c hc
  simp only [Function.comp, UInt8.toNat_ofNat', id]
  apply UInt8.toNat_inj.1
  rw [UInt8.toNat_ofNat']
  omega
theorem ref_get (s : ByteArray) (k : Nat) (hk : 20 ≤ k) : squelchref04_Get.f k s = some ((getS s).1, (getS s).2.1, (getS s).2.2.1, (getS s).2.2.2.1, (getS s).2.2.2.2 == 0) := by
  unfold squelchref04_Get.f
  by_cases h7 : s.size = 7
  · rw [if_pos (by omega), if_pos (by omega)]
    have hb6 := bt_range s 6
    have hn : Int.tmod (wrap64 (Int.tdiv (wrap64 (bt s 6)) 2)) 16 = bt s 6 / 2 % 16 := by
      have h1 : wrap64 (bt s 6) = bt s 6 := by unfold wrap64; omega
      rw [h1, Int.tdiv_eq_ediv_of_nonneg hb6.1]
      have h2 : wrap64 (bt s 6 / 2) = bt s 6 / 2 := by unfold wrap64; omega
      rw [h2, Int.tmod_eq_emod_of_nonneg (by omega)]
    have hm : decide (bt s 6 ≥ 128) = decide (128 ≤ bt s 6) := rfl
    have hl : (Int.tmod (bt s 6) 2 == 1) = decide (bt s 6 % 2 = 1) := by rw [Int.tmod_eq_emod_of_nonneg hb6.1]; rfl
    rw [hn]
    have hC : (⟨(refB s 6).toArray⟩ : ByteArray).toList = refB s 6 := by rw [Go.ByteArray.toList_eq]
    generalize hCe : (⟨(refB s 6).toArray⟩ : ByteArray) = C at hC
    have hCs : C.size ≤ 6 := by rw [← len_eq, hC]; exact refB_len s 6
    refine ref_get_l s h7 (bt s 6 / 2 % 16) 12 _ (fun k' b hk' hb => ?_) 6 0 k _ (by omega) (by omega) (by omega) (by rw [Go.ByteArray.toList_eq]; rfl)
    obtain rfl : b = C := ba_eq (hb.trans hC.symm)
    obtain ⟨k', rfl⟩ : ∃ k'', k' = k'' + 1 := ⟨k' - 1, by omega⟩
    rw [squelchref04_Get.l0, if_neg (by omega), if_pos (by omega), ref_right b _ (by omega) k' (by omega), Option.bind_some, hm, hl]
    have hg : getS s = if rightB (getBase s) (bt s 6 / 2 % 16) = true ∧ strOfNums (putL (getBase s) (bt s 6 / 2 % 16) (decide (128 ≤ bt s 6)) (decide (bt s 6 % 2 = 1))) = s
        then (getBase s, bt s 6 / 2 % 16, decide (128 ≤ bt s 6), decide (bt s 6 % 2 = 1), 0) else (⟨#[]⟩, 0, false, false, 2) := by
      unfold getS; rw [if_neg (by omega), if_neg (by omega)]
    rw [hg]
    by_cases h : rightB (getBase s) (bt s 6 / 2 % 16) = true ∧ strOfNums (putL (getBase s) (bt s 6 / 2 % 16) (decide (128 ≤ bt s 6)) (decide (bt s 6 % 2 = 1))) = s
    · rw [if_pos h]
      have hr := ref_base (getBase s) _ (decide (128 ≤ bt s 6)) (decide (bt s 6 % 2 = 1)) h.1
      rw [h.2] at hr
      obtain rfl : b = getBase s := ba_eq (hC.trans hr)
      rw [if_pos h.1, ref_put _ _ h.1 _ _ k' (by omega), Option.bind_some, if_pos (by rw [h.2])]
      rfl
    · rw [if_neg h]
      by_cases hr : rightB b (bt s 6 / 2 % 16) = true
      · rw [if_pos hr, ref_put _ _ hr _ _ k' (by omega), Option.bind_some, if_neg ?_]
        · rfl
        · intro he
          have he2 := ba_eq he
          have hgb := get_base b (bt s 6 / 2 % 16) (decide (128 ≤ bt s 6)) (decide (bt s 6 % 2 = 1)) hr
          rw [he2] at hgb
          rw [hgb] at h
          exact h ⟨hr, he2⟩
      · rw [if_neg hr]; rfl
  · rw [if_neg (by omega)]
    unfold getS
    by_cases h : s.size < 7
    · rw [if_pos h]; rfl
    · rw [if_neg h, if_pos (by omega)]; rfl
theorem get_err (s : ByteArray) : (getS s).2.2.2.2 = 0 ∨ (getS s).2.2.2.2 = (if s.size < 7 then 4 else if 7 < s.size then 5 else 2) := by
  unfold getS
  split
  · rename_i h; exact Or.inr rfl
  · rename_i h
    split
    · rename_i h2; exact Or.inr rfl
    · rename_i h2
      split
      · exact Or.inl rfl
      · exact Or.inr rfl
end Go.Proofs.YtpmieapgbdbabaaDoor.Pure
