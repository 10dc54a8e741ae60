/- The plain law of CallOrder: calls stand in one order, as the reference says; of two unlike ones just one stands ahead; over plain strings and numbers. -/
import Derived.Test.YtpmieapgbdbabaaDoorQAllxF7
import Derived.Test.YtpmieapgbdbabaaDoorHRight
import Derived.KernelRfl
set_option linter.unusedVariables false
namespace Go.Proofs.YtpmieapgbdbabaaDoor.Pure
open Go.RowKit Go.Proofs.YtpmieapgbdbabaaDoor.QAll Go.Proofs.YtpmieapgbdbabaaDoorW.PrintWords Go.Proofs.YtpmieapgbdbabaaDoorW.PrintLast

theorem awake04 : squelchlaw04_awake.f = some true := by kernel_rfl

theorem bl_irrefl : ∀ x : List UInt8, Op.bytesLess x x = false
  | [] => rfl
  | a :: x => by simp [Op.bytesLess, bl_irrefl x]
theorem bl_trans : ∀ x y z : List UInt8, Op.bytesLess x y = true → Op.bytesLess y z = true → Op.bytesLess x z = true
  | x, [], _, h, _ => by cases x <;> simp [Op.bytesLess] at h
  | _, b :: y, [], _, h => by simp [Op.bytesLess] at h
  | [], b :: y, c :: z, _, _ => by simp [Op.bytesLess]
  | a :: x, b :: y, c :: z, h1, h2 => by
    simp only [Op.bytesLess, Bool.or_eq_true, Bool.and_eq_true, decide_eq_true_eq, beq_iff_eq] at h1 h2 ⊢
    have ih := bl_trans x y z
    rcases h1 with h1 | ⟨rfl, h1⟩
    · rcases h2 with h2 | ⟨rfl, h2⟩
      · left; exact UInt8.lt_trans h1 h2
      · left; exact h1
    · rcases h2 with h2 | ⟨rfl, h2⟩
      · left; exact h2
      · right; exact ⟨rfl, ih h1 h2⟩
theorem bl_flip : ∀ x y : List UInt8, x ≠ y → Op.bytesLess x y = !Op.bytesLess y x
  | [], [], h => absurd rfl h
  | [], _ :: _, _ => rfl
  | _ :: _, [], _ => rfl
  | a :: x, b :: y, h => by
    simp only [Op.bytesLess]
    by_cases hab : a = b
    · subst hab
      have := bl_flip x y (fun e => h (by rw [e]))
      simp [this]
    · rcases UInt8.lt_or_lt_of_ne hab with h1 | h1
      · have h2 : ¬ b < a := fun h2 => absurd (UInt8.lt_trans h1 h2) (UInt8.lt_irrefl _)
        have h3 : ¬ b = a := fun e => hab e.symm
        simp [h1, h2, h3]
      · have h2 : ¬ a < b := fun h2 => absurd (UInt8.lt_trans h1 h2) (UInt8.lt_irrefl _)
        simp [h1, h2, hab]

/-- What stands ahead. -/
def lessB (x : List UInt8) (n : Int) (y : List UInt8) (m : Int) : Bool := if x = y then decide (n < m) else Op.bytesLess x y
theorem call_less (a : ByteArray) (n : Int) (b : ByteArray) (m : Int) : call_Less.f a n b m = some (lessB a.toList n b.toList m) := by
  unfold call_Less.f lessB
  split <;> rfl
theorem bt_drop (s : ByteArray) (i : Nat) (h : i < s.size) : ∃ c r, s.toList.drop i = c :: r ∧ s.toList.drop (i + 1) = r ∧ bt s i = (c.toNat : Int) := by
  have hl : i < s.toList.length := by rw [Go.ByteArray.toList_eq]; simpa using h
  refine ⟨s.toList[i], s.toList.drop (i + 1), List.drop_eq_getElem_cons hl, rfl, ?_⟩
  rw [bt_data s i h]
  congr 2
  simp only [Go.ByteArray.toList_eq]
theorem drop_end (s : ByteArray) (i : Nat) (h : s.size ≤ i) : s.toList.drop i = [] := List.drop_eq_nil_of_le (by rw [Go.ByteArray.toList_eq]; simpa using h)
theorem ref_less_at (a : ByteArray) (n : Int) (b : ByteArray) (m : Int) (ha : a.size < 9223372036854775807) : ∀ (d i : Nat), a.size - i ≤ d → i ≤ a.size → i ≤ b.size →
    squelchref04_Less.l0 (2 * d + 2) (i : Int) a n b m = some (lessB (a.toList.drop i) n (b.toList.drop i) m)
  | d, i, hd, hi, hj => by
    rw [squelchref04_Less.l0]
    by_cases h1 : i < a.size
    · rw [if_pos (by omega)]
      rw [squelchref04_Less.j1]
      obtain ⟨c, r, e1, e2, e3⟩ := bt_drop a i h1
      by_cases h2 : i < b.size
      · obtain ⟨c', r', f1, f2, f3⟩ := bt_drop b i h2
        rw [if_pos (decide_eq_true (by omega)), if_pos (by omega), if_pos (by omega), if_pos (by omega), e3, f3, e1, f1]
        by_cases h3 : c = c'
        · subst h3
          rw [if_pos rfl]
          have hw : wrap64 ((i : Int) + 1) = ((i + 1 : Nat) : Int) := by unfold wrap64; omega
          obtain ⟨d', rfl⟩ : ∃ d', d = d' + 1 := ⟨d - 1, by omega⟩
          have ih := ref_less_at a n b m ha d' (i + 1) (by omega) (by omega) (by omega)
          rw [hw]
          have ih' : squelchref04_Less.l0 (2 * (d' + 1)) ((i + 1 : Nat) : Int) a n b m = _ := ih
          rw [ih', e2, f2]
          unfold lessB
          simp [Op.bytesLess]
        · have h4 : ¬ ((c.toNat : Int) = c'.toNat) := fun e => h3 (UInt8.toNat_inj.1 (by omega))
          rw [if_neg h4]
          unfold lessB
          rw [if_neg (fun e => h3 (List.cons.inj e).1)]
          congr 1
          simp only [Op.bytesLess]
          have h5 : (c == c') = false := by simpa using h3
          rw [h5, Bool.false_and, Bool.or_false]
          exact decide_eq_decide.2 (by rw [UInt8.lt_iff_toNat_lt]; omega)
      · have hn : (decide ((i : Int) < b.size)) = false := decide_eq_false (by omega)
        rw [hn, if_neg (by simp), if_neg (by omega), e1, drop_end b i (by omega)]
        unfold lessB
        rw [if_neg (by simp)]
        congr 1
        show decide _ = false
        exact decide_eq_false (by omega)
    · rw [if_neg (by omega)]
      rw [squelchref04_Less.j1, if_neg (by simp)]
      have h0 : i = a.size := by omega
      rw [drop_end a i (by omega)]
      unfold lessB
      by_cases h2 : i < b.size
      · obtain ⟨c', r', f1, f2, f3⟩ := bt_drop b i h2
        rw [if_neg (by omega), f1, if_neg (by simp)]
        congr 1
        exact decide_eq_true (by omega)
      · rw [drop_end b i (by omega), if_pos rfl]
        by_cases h3 : (a.size : Int) = b.size
        · rw [if_pos h3]
        · exfalso; omega
theorem ref_less (a : ByteArray) (n : Int) (b : ByteArray) (m : Int) (ha : a.size < 9223372036854775807) : squelchref04_Less.f (2 * a.size + 2) a n b m = some (lessB a.toList n b.toList m) :=
  ref_less_at a n b m ha a.size 0 (by omega) (by omega) (by omega)
theorem lessB_irrefl (x : List UInt8) (n : Int) : lessB x n x n = false := by unfold lessB; simp
theorem lessB_flip (x : List UInt8) (n : Int) (y : List UInt8) (m : Int) (h : ¬ (x = y ∧ n = m)) : lessB x n y m = !lessB y m x n := by
  unfold lessB
  by_cases hxy : x = y
  · subst hxy
    simp only [if_true]
    have hnm : n ≠ m := fun e => h ⟨rfl, e⟩
    by_cases h1 : n < m
    · simp [h1, show ¬ m < n by omega]
    · simp [h1, show m < n by omega]
  · rw [if_neg hxy, if_neg (fun e => hxy e.symm)]
    exact bl_flip x y hxy
theorem lessB_trans (x : List UInt8) (n : Int) (y : List UInt8) (m : Int) (z : List UInt8) (o : Int) (h1 : lessB x n y m = true) (h2 : lessB y m z o = true) : lessB x n z o = true := by
  unfold lessB at *
  by_cases hxy : x = y
  · subst hxy
    by_cases hyz : x = z
    · subst hyz
      simp only [if_true, decide_eq_true_eq] at *
      omega
    · rw [if_neg hyz] at h2 ⊢; exact h2
  · rw [if_neg hxy] at h1
    by_cases hyz : y = z
    · subst hyz
      rw [if_neg hxy]; exact h1
    · rw [if_neg hyz] at h2
      have h3 := bl_trans x y z h1 h2
      by_cases hxz : x = z
      · subst hxz; rw [bl_irrefl] at h3; cases h3
      · rw [if_neg hxz]; exact h3
theorem CallOrder (a0_0 : ByteArray) (a0_1 : Int) (a1_0 : ByteArray) (a1_1 : Int) (a2_0 : ByteArray) (a2_1 : Int)
    (z0 : a0_0.size ≤ 140737488351232) (w0 : (Lit.int .i64 a0_1).wf = true) (z1 : a1_0.size ≤ 140737488351232) (w1 : (Lit.int .i64 a1_1).wf = true) (z2 : a2_0.size ≤ 140737488351232) (w2 : (Lit.int .i64 a2_1).wf = true) :
    ∃ k, squelchlaw04_CallOrder.f k a0_0 a0_1 a1_0 a1_1 a2_0 a2_1 = some true := by
  have hj : ∀ k, squelchlaw04_CallOrder.j0 (k + 1) false a0_0 a0_1 a1_0 a1_1 a2_0 a2_1 = some true := fun k => by
    rw [squelchlaw04_CallOrder.j0, if_neg (by simp)]
    simp only [call_less, Option.bind_some]
    split
    · rename_i h1
      split
      · rename_i h2
        rw [lessB_trans _ _ _ _ _ _ h1 h2]
      · rfl
    · rfl
  refine ⟨2 * a0_0.size + 2, ?_⟩
  unfold squelchlaw04_CallOrder.f
  rw [awake04, Option.bind_some, if_pos rfl]
  split
  · rfl
  rw [call_less, ref_less _ _ _ _ (by omega), call_less, lessB_irrefl]
  simp only [Option.bind_some]
  rw [if_neg (by simp), if_neg (by simp)]
  split
  · rename_i hne
    simp only [call_less, Option.bind_some]
    have hf := lessB_flip a0_0.toList a0_1 a1_0.toList a1_1 (by
      rintro ⟨h1, h2⟩
      rw [h1, h2] at hne
      simp at hne)
    rw [hf]
    have e : ((!lessB a1_0.toList a1_1 a0_0.toList a0_1) == lessB a1_0.toList a1_1 a0_0.toList a0_1) = false := by
      cases lessB a1_0.toList a1_1 a0_0.toList a0_1 <;> rfl
    rw [e]
    exact hj _
  · exact hj _
end Go.Proofs.YtpmieapgbdbabaaDoor.Pure
