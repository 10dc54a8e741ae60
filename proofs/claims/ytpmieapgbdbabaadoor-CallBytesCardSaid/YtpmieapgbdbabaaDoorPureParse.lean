/- What the reference says of a call's word: which call is right, its digits, and what is read of a word: as much as the walked program tells; over plain strings and numbers. -/
import Derived.Test.YtpmieapgbdbabaaDoorQAllxF44
import Derived.Test.YtpmieapgbdbabaaDoorQAllxF43
import Derived.Test.YtpmieapgbdbabaaDoorHParse
import Derived.Test.YtpmieapgbdbabaaDoorHItoa
import Derived.Lib.IndexLaws
import Derived.KernelRfl
set_option linter.unusedVariables false
namespace Go.Proofs.YtpmieapgbdbabaaDoor.Pure
open Go.RowKit Go.Proofs.YtpmieapgbdbabaaDoor.QAll Go.Proofs.YtpmieapgbdbabaaDoorW.PrintWords Go.Proofs.YtpmieapgbdbabaaDoorW.PrintLast

theorem ba_eq {a b : ByteArray} (h : a.toList = b.toList) : a = b := by
  rw [Go.ByteArray.toList_eq, Go.ByteArray.toList_eq] at h
  cases a; cases b
  congr 1
  exact Array.ext' h
theorem len_eq (a : ByteArray) : a.toList.length = a.size := by rw [Go.ByteArray.toList_eq]; simp
theorem bt_at (s : ByteArray) (i : Nat) (h : i < s.size) : ∃ c r, s.toList.drop i = c :: r ∧ s.toList.drop (i + 1) = r ∧ bt s i = (c.toNat : Int) := by
  have hl : i < s.toList.length := by rw [len_eq]; exact h
  refine ⟨s.toList[i], s.toList.drop (i + 1), List.drop_eq_getElem_cons hl, rfl, ?_⟩
  rw [bt_data s i h]
  congr 2
  simp only [Go.ByteArray.toList_eq]
theorem drop_all (s : ByteArray) (i : Nat) (h : s.size ≤ i) : s.toList.drop i = [] := List.drop_eq_nil_of_le (by rw [len_eq]; exact h)
theorem wrap_succ (i : Nat) (h : i < 9223372036854775807) : wrap64 ((i : Int) + 1) = ((i + 1 : Nat) : Int) := by unfold wrap64; omega

/-! ### Right -/
theorem ref_right_l (s : ByteArray) (n : Int) (hs : s.size < 9223372036854775807) : ∀ (d k i : Nat), s.size - i ≤ d → d + 1 ≤ k → i ≤ s.size →
    squelchref04_Right.l0 k (i : Int) s n = some ((s.toList.drop i).all fun c => letB c.toNat)
  | d, 0, i, _, hk, _ => absurd hk (by omega)
  | d, k + 1, i, hd, hk, hi => by
    rw [squelchref04_Right.l0]
    by_cases h : i < s.size
    · obtain ⟨c, r, e1, e2, e3⟩ := bt_at s i h
      obtain ⟨d', rfl⟩ : ∃ d', d = d' + 1 := ⟨d - 1, by omega⟩
      have ih := ref_right_l s n hs d' k (i + 1) (by omega) (by omega) (by omega)
      rw [if_pos (by omega), if_pos (by omega), e3, wrap_succ i (by omega), ih, e1, e2]
      simp only [List.all_cons]
      unfold letB
      by_cases h1 : (c.toNat : Int) ≥ 65
      · rw [if_pos h1]
        by_cases h2 : (c.toNat : Int) ≤ 90
        · rw [if_pos h2, decide_eq_true (by omega), Bool.true_and]
        · rw [if_neg h2, if_pos (by omega), if_neg (by omega), decide_eq_false (by omega), Bool.false_and]
      · rw [if_neg h1]
        by_cases h2 : (c.toNat : Int) ≥ 48
        · rw [if_pos h2]
          by_cases h3 : (c.toNat : Int) ≤ 57
          · rw [if_pos h3, decide_eq_true (by omega), Bool.true_and]
          · rw [if_neg h3, decide_eq_false (by omega), Bool.false_and]
        · rw [if_neg h2, decide_eq_false (by omega), Bool.false_and]
    · rw [if_neg (by omega), drop_all s i (by omega)]
      rfl
theorem ref_right (s : ByteArray) (n : Int) (hs : s.size < 9223372036854775807) (k : Nat) (hk : s.size + 2 ≤ k) : squelchref04_Right.f k s n = some (rightB s n) := by
  obtain ⟨k, rfl⟩ : ∃ k', k = k' + 1 := ⟨k - 1, by omega⟩
  unfold squelchref04_Right.f rightB
  have h0 := ref_right_l s n hs s.size k 0 (by omega) (by omega) (by omega)
  simp only [squelchref04_Right.j0]
  rw [show ((0 : Nat) : Int) = 0 from rfl] at h0
  rw [h0, List.drop_zero]
  have hl : letsB s = s.toList.all fun c => letB c.toNat := by unfold letsB; rw [Go.ByteArray.toList_eq]
  rw [hl]
  by_cases h1 : (s.size : Int) < 1
  · rw [if_pos h1, if_pos trivial, decide_eq_false (show ¬ 1 ≤ s.size by omega)]; simp
  · rw [if_neg h1, decide_eq_true (show 1 ≤ s.size by omega)]
    by_cases h2 : (s.size : Int) > 6
    · rw [if_pos h2, if_pos trivial, decide_eq_false (show ¬ s.size ≤ 6 by omega)]; simp
    · rw [if_neg h2, decide_eq_true (show s.size ≤ 6 by omega)]
      by_cases h3 : n < 0
      · rw [if_pos h3, if_pos trivial, decide_eq_false (show ¬ 0 ≤ n by omega)]; simp
      · rw [if_neg h3, decide_eq_true (show 0 ≤ n by omega)]
        by_cases h4 : n > 15
        · rw [decide_eq_true h4, if_pos rfl, decide_eq_false (show ¬ n ≤ 15 by omega)]; simp
        · rw [decide_eq_false h4, if_neg (by simp), decide_eq_true (show n ≤ 15 by omega)]; simp

/-! ### Digits -/
def digs (n : Nat) : List UInt8 := if n < 10 then [UInt8.ofNat (48 + n)] else [UInt8.ofNat (48 + n / 10), UInt8.ofNat (48 + n % 10)]
theorem digs_dec (n : Nat) (h : n < 100) : Lib.decDigits n = digs n := by
  unfold digs
  by_cases h1 : n < 10
  · rw [if_pos h1, Lib.decDigits_one h1]
  · rw [if_neg h1, Lib.decDigits_two h1 h]
theorem ref_digits_all : ((List.range 100).all fun n => decide ((squelchref04_Digits.f (n : Int)).map (·.toList) = some (digs n))) = true := by kernel_rfl
theorem ref_digits (n : Nat) (h : n < 100) : squelchref04_Digits.f (n : Int) = some ⟨(digs n).toArray⟩ := by
  have h1 := of_decide_eq_true (List.all_eq_true.1 ref_digits_all n (List.mem_range.2 h))
  cases hx : squelchref04_Digits.f (n : Int) with
  | none => rw [hx] at h1; cases h1
  | some y =>
    rw [hx] at h1
    congr 1
    apply ba_eq
    rw [Option.map_some] at h1
    rw [Option.some.inj h1, Go.ByteArray.toList_eq]
theorem digs_inj_all : ((List.range 16).all fun a => (List.range 16).all fun b => decide (digs a = digs b → a = b)) = true := by kernel_rfl
theorem digs_inj (a b : Nat) (ha : a < 16) (hb : b < 16) (h : digs a = digs b) : a = b :=
  of_decide_eq_true (List.all_eq_true.1 (List.all_eq_true.1 digs_inj_all a (List.mem_range.2 ha)) b (List.mem_range.2 hb)) h
theorem digs_atoi_all : ((List.range 16).all fun a => decide (Lib.atoiAll (digs a) = .ok (a : Int))) = true := by kernel_rfl
theorem digs_atoi (a : Nat) (ha : a < 16) : Lib.atoiAll (digs a) = .ok (a : Int) := of_decide_eq_true (List.all_eq_true.1 digs_atoi_all a (List.mem_range.2 ha))
theorem numOf_digs (t : ByteArray) (n : Nat) (hn : n < 16) (h : t.toList = digs n) : numOf t = some (n : Int) := by
  unfold numOf
  rw [Go.ByteArray.toList_eq] at h
  rw [h, digs_atoi n hn]
  have : Lib.itoa (n : Int) = digs n := by
    unfold Lib.itoa
    rw [if_neg (by omega)]
    exact digs_dec n (by omega)
  simp only
  rw [if_pos this]
theorem numOf_some (t : ByteArray) (v : Int) (h : numOf t = some v) (h0 : 0 ≤ v) (h1 : v ≤ 15) : ∃ n : Nat, n < 16 ∧ v = n ∧ t.toList = digs n := by
  unfold numOf at h
  split at h
  · split at h
    · rename_i v' hv he
      obtain rfl := Option.some.inj h
      obtain ⟨n, rfl⟩ := Int.eq_ofNat_of_zero_le h0
      refine ⟨n, by omega, rfl, ?_⟩
      rw [Go.ByteArray.toList_eq, ← he]
      unfold Lib.itoa
      rw [if_neg (by omega)]
      exact digs_dec n (by omega)
    · cases h
  · cases h

/-! ### great letters -/
def upB (c : UInt8) : UInt8 := if 97 ≤ c.toNat ∧ c.toNat ≤ 122 then UInt8.ofNat (c.toNat - 32) else c
theorem upper_list (s : ByteArray) : (upperS s).toList = s.toList.map upB := by
  rw [Go.ByteArray.toList_eq, Go.ByteArray.toList_eq]
  unfold upperS upL strOfNums bytesOf
  simp only [List.map_map]
  apply List.map_congr_left
  intro c _
  simp only [Function.comp, upI, upB]
  have hc := c.toNat_lt
  by_cases h : 97 ≤ c.toNat ∧ c.toNat ≤ 122
  · rw [if_pos (by omega), if_pos h]
    congr 1
    omega
  · rw [if_neg (by omega), if_neg h]
    simp
theorem upB_45 (c : UInt8) : upB c = 45 ↔ c = 45 := by
  unfold upB
  split
  · rename_i h
    constructor
    · intro e
      have := congrArg UInt8.toNat e
      rw [UInt8.toNat_ofNat'] at this
      have hc := c.toNat_lt
      simp at this
      omega
    · rintro rfl; simp at h
  · rfl
theorem digs_small_all : ((List.range 16).all fun a => (digs a).all fun c => decide (c.toNat < 65)) = true := by kernel_rfl
theorem up_small (l : List UInt8) (h : ∀ c ∈ l.map upB, c.toNat < 65) : l.map upB = l := by
  induction l with
  | nil => rfl
  | cons c r ih =>
    simp only [List.map_cons, List.mem_cons, forall_eq_or_imp] at h ⊢
    rw [ih h.2]
    congr 1
    have h1 := h.1
    unfold upB at h1 ⊢
    split at h1
    · rename_i h2
      rw [UInt8.toNat_ofNat'] at h1
      have hc := c.toNat_lt
      omega
    · rename_i h2; rw [if_neg h2]
theorem up_fix (l : List UInt8) (h : ∀ c ∈ l, c.toNat < 97) : l.map upB = l := by
  induction l with
  | nil => rfl
  | cons c r ih =>
    simp only [List.mem_cons, forall_eq_or_imp, List.map_cons] at h ⊢
    rw [ih h.2]
    congr 1
    unfold upB
    rw [if_neg (by omega)]
theorem digs_up (l : List UInt8) (n : Nat) (hn : n < 16) : l.map upB = digs n ↔ l = digs n := by
  have hd : ∀ c ∈ digs n, c.toNat < 65 := fun c hc => of_decide_eq_true (List.all_eq_true.1 (List.all_eq_true.1 digs_small_all n (List.mem_range.2 hn)) c hc)
  constructor
  · intro h
    rw [← up_small l (by rw [h]; exact hd), h]
  · rintro rfl
    exact up_fix _ fun c hc => by have := hd c hc; omega

/-! ### Parse -/
theorem toList_app (a b : ByteArray) : (a ++ b).toList = a.toList ++ b.toList := by
  simp [Go.ByteArray.toList_eq]
theorem toList_ext (a : ByteArray) (i j : Nat) : (a.extract i j).toList = (a.toList.take j).drop i := by
  simp [Go.ByteArray.toList_eq, ByteArray.data_extract, List.drop_take]
theorem strOf_one (x : Int) : (strOfNums [x]).toList = [UInt8.ofNat x.toNat] := by
  rw [Go.ByteArray.toList_eq]; rfl
/-- The end of the search for the digits. -/
def finP (K : Nat) (found : Bool) (b : ByteArray) (n : Int) : Option (ByteArray × Int × Bool) :=
  if found = true then (if rightB b n = true then some (b, n, true) else some (⟨#[]⟩, 0, false)) else some (⟨#[]⟩, 0, false)
theorem l1_step (k : Nat) (s : ByteArray) (q : Nat) (hq : q < s.size) (hs : s.size < 9223372036854775807) (f : Bool) (x : Nat) (hx : x < 16) (b : ByteArray) (n : Int) :
    squelchref04_Parse.l1 (k + 1) s (q : Int) f (x : Int) b n = if digs x = s.toList.drop (q + 1) then squelchref04_Parse.l1 k s (q : Int) true ((x + 1 : Nat) : Int) b (x : Int) else squelchref04_Parse.l1 k s (q : Int) f ((x + 1 : Nat) : Int) b n := by
  rw [squelchref04_Parse.l1, if_pos (by omega), ref_digits x (by omega), Option.bind_some, wrap_succ q (by omega), wrap_succ x (by omega), if_pos (by omega), if_pos (by omega)]
  have e : (s.extract ((q + 1 : Nat) : Int).toNat s.size).toList = s.toList.drop (q + 1) := by
    rw [toList_ext, show ((q + 1 : Nat) : Int).toNat = q + 1 from by omega, List.take_of_length_le (by rw [len_eq]; omega)]
  rw [e]
  have e2 : (⟨(digs x).toArray⟩ : ByteArray).toList = digs x := by rw [Go.ByteArray.toList_eq]
  rw [e2]
theorem l1_end (k : Nat) (s : ByteArray) (q : Nat) (f : Bool) (b : ByteArray) (n : Int) (hb : b.size < 9223372036854775807) (hk : b.size + 2 ≤ k) :
    squelchref04_Parse.l1 (k + 1) s (q : Int) f ((16 : Nat) : Int) b n = finP 0 f b n := by
  rw [squelchref04_Parse.l1, if_neg (by omega), ref_right b n hb k hk]
  unfold finP
  simp only [Option.bind_some]
theorem l1_none (s : ByteArray) (q : Nat) (hq : q < s.size) (hs : s.size < 9223372036854775807) (b : ByteArray) (hb : b.size < 9223372036854775807) : ∀ (d x k : Nat) (f : Bool) (n : Int), x + d = 16 → d + b.size + 3 ≤ k →
    (∀ y, x ≤ y → y < 16 → digs y ≠ s.toList.drop (q + 1)) → squelchref04_Parse.l1 k s (q : Int) f (x : Int) b n = finP 0 f b n
  | d, x, 0, f, n, _, hk, _ => absurd hk (by omega)
  | 0, x, k + 1, f, n, hx, hk, h => by
    obtain rfl : x = 16 := by omega
    exact l1_end k s q f b n hb (by omega)
  | d + 1, x, k + 1, f, n, hx, hk, h => by
    rw [l1_step k s q hq hs f x (by omega) b n, if_neg (h x (Nat.le_refl _) (by omega))]
    exact l1_none s q hq hs b hb d (x + 1) k f n (by omega) (by omega) (fun y h1 h2 => h y (by omega) h2)
theorem l1_some (s : ByteArray) (q : Nat) (hq : q < s.size) (hs : s.size < 9223372036854775807) (b : ByteArray) (hb : b.size < 9223372036854775807) (m : Nat) (hm : m < 16) (hd : digs m = s.toList.drop (q + 1)) : ∀ (d x k : Nat) (f : Bool) (n : Int), x + d = 16 → d + b.size + 3 ≤ k → x ≤ m →
    squelchref04_Parse.l1 k s (q : Int) f (x : Int) b n = finP 0 true b (m : Int)
  | d, x, 0, f, n, _, hk, _ => absurd hk (by omega)
  | 0, x, k + 1, f, n, hx, hk, h => by omega
  | d + 1, x, k + 1, f, n, hx, hk, h => by
    rw [l1_step k s q hq hs f x (by omega) b n]
    by_cases e : x = m
    · subst e
      rw [if_pos hd]
      exact l1_none s q hq hs b hb d (x + 1) k true x (by omega) (by omega) (fun y h1 h2 h3 => by
        have := digs_inj y x h2 hm (h3.trans hd.symm)
        omega)
    · rw [if_neg (fun h3 => e (digs_inj x m (by omega) hm (h3.trans hd.symm)))]
      exact l1_some s q hq hs b hb m hm hd d (x + 1) k f n (by omega) (by omega) (by omega)
theorem l0_loop (s : ByteArray) (hs : s.size ≤ 281474976710656) (q : Nat) (hq : q ≤ s.size) (h1 : ∀ j : Nat, j < q → s.toList[j]? ≠ some 45) (h2 : q < s.size → s.toList[q]? = some 45) (K : Nat) (R : Option (ByteArray × Int × Bool))
    (hR : ∀ (k : Nat) (b : ByteArray), K ≤ k → b.toList = (s.toList.take q).map upB → squelchref04_Parse.j1 k s (q : Int) false b 0 = R) : ∀ (d i k : Nat) (b : ByteArray), q - i ≤ d → i ≤ q → 2 * d + 1 + K ≤ k → b.toList = (s.toList.take i).map upB →
    squelchref04_Parse.l0 k s (i : Int) b 0 = R
  | d, i, 0, b, _, _, hk, _ => absurd hk (by omega)
  | d, i, k + 1, b, hd, hi, hk, hb => by
    rw [squelchref04_Parse.l0]
    by_cases e : i = q
    · subst e
      by_cases h : i < s.size
      · obtain ⟨c, r, e1, e2, e3⟩ := bt_at s i h
        have hc : s.toList[i]? = some c := by
          have := congrArg (·[0]?) e1
          simpa using this
        have hc45 : c = 45 := by rw [h2 h] at hc; exact (Option.some.inj hc).symm
        rw [if_pos (by omega), if_pos (by omega), e3, hc45]
        exact hR k b (by omega) hb
      · rw [if_neg (by omega)]
        exact hR k b (by omega) hb
    · have h : i < s.size := by omega
      obtain ⟨c, r, e1, e2, e3⟩ := bt_at s i h
      have hc : s.toList[i]? = some c := by
        have := congrArg (·[0]?) e1
        simpa using this
      have hc45 : c ≠ 45 := fun e => h1 i (by omega) (by rw [hc, e])
      have hn45 : ((c.toNat : Int) != 45) = true := by
        rw [bne_iff_ne]
        intro e
        apply hc45
        apply UInt8.toNat_inj.1
        show c.toNat = 45
        omega
      obtain ⟨d', rfl⟩ : ∃ d', d = d' + 1 := ⟨d - 1, by omega⟩
      obtain ⟨k, rfl⟩ : ∃ k', k = k' + 1 := ⟨k - 1, by omega⟩
      have hbs : b.size = i := by
        rw [← len_eq, hb, List.length_map, List.length_take, len_eq]; omega
      rw [if_pos (by omega), if_pos (by omega), e3, hn45, squelchref04_Parse.j1, if_pos rfl, if_pos (by omega), if_pos (by omega), e3, wrap_succ i (by omega)]
      have ht : s.toList.take (i + 1) = s.toList.take i ++ [c] := by
        rw [List.take_add_one, hc]; rfl
      have hgo : ∀ x : Int, UInt8.ofNat x.toNat = upB c → (if b.size + (strOfNums [x]).size ≤ 9223372036854775807 then squelchref04_Parse.l0 k s ((i + 1 : Nat) : Int) (b ++ strOfNums [x]) 0 else none) = R := fun x hx => by
        have h1s : (strOfNums [x]).size = 1 := rfl
        rw [if_pos (by rw [h1s]; omega)]
        refine l0_loop s hs q hq h1 h2 K R hR d' (i + 1) k _ (by omega) (by omega) (by omega) ?_
        rw [toList_app, strOf_one, ht, List.map_append, hb, hx]
        rfl
      simp only [Option.bind_some]
      have hcl := c.toNat_lt
      by_cases h3 : (c.toNat : Int) ≥ 97
      · rw [if_pos h3]
        by_cases h4 : (c.toNat : Int) ≤ 122
        · rw [if_pos h4]
          refine hgo _ ?_
          unfold upB
          rw [if_pos (by omega)]
          congr 1
          omega
        · rw [if_neg h4]
          refine hgo _ ?_
          unfold upB
          rw [if_neg (by omega)]
          simp
      · rw [if_neg h3]
        refine hgo _ ?_
        unfold upB
        rw [if_neg (by omega)]
        simp
theorem index_up (l : List UInt8) : Lib.indexByte (l.map upB) 45 = Lib.indexByte l 45 := by
  induction l with
  | nil => rfl
  | cons c r ih =>
    simp only [List.map_cons, Lib.indexByte, ih]
    have : (upB c == 45) = (c == 45) := by
      by_cases h : c = 45
      · rw [beq_iff_eq.2 h, beq_iff_eq.2 ((upB_45 c).2 h)]
      · rw [beq_eq_false_iff_ne.2 h, beq_eq_false_iff_ne.2 (fun e => h ((upB_45 c).1 e))]
    rw [this]
theorem parse_err (s : ByteArray) : (parseS s).2.2 = 0 ∨ (parseS s).2.2 = 12 := by
  unfold parseS
  split
  · split
    · split
      · exact Or.inl rfl
      · exact Or.inr rfl
    · exact Or.inr rfl
  · split
    · exact Or.inl rfl
    · exact Or.inr rfl
theorem ref_parse (s : ByteArray) (hs : s.size ≤ 281474976710656) (k : Nat) (hk : 3 * s.size + 25 ≤ k) : squelchref04_Parse.f k s = some ((parseS s).1, (parseS s).2.1, (parseS s).2.2 == 0) := by
  unfold squelchref04_Parse.f
  have hul : (upperS s).data.toList = s.toList.map upB := by rw [← Go.ByteArray.toList_eq]; exact upper_list s
  have hix : Lib.indexByte (upperS s).data.toList 45 = Lib.indexByte s.toList 45 := by rw [hul, index_up]
  have hus : (upperS s).size = s.size := upper_size s
  by_cases hhas : 0 ≤ Lib.indexByte s.toList 45
  · obtain ⟨q, hq⟩ := Int.eq_ofNat_of_zero_le hhas
    have hlt : q < s.size := by rw [← len_eq]; exact indexByte_lt _ _ _ hq
    obtain ⟨g1, g2⟩ := Lib.indexByte_some hq
    have hH : cutHas (upperS s) 45 = true := by unfold cutHas; rw [hix]; exact decide_eq_true hhas
    have hI : idxOf (upperS s) 45 = q := by unfold idxOf; rw [hix, hq]; rfl
    have hA : (cutA (upperS s) 45).toList = (s.toList.take q).map upB := by
      unfold cutA; rw [if_pos hH, hI, toList_ext, upper_list, List.drop_zero, List.map_take]
    have hB : (cutB (upperS s) 45).toList = (s.toList.drop (q + 1)).map upB := by
      unfold cutB; rw [if_pos hH, hI, toList_ext, upper_list, List.take_of_length_le (by rw [List.length_map, len_eq]; omega), List.map_drop]
    have hAs : (cutA (upperS s) 45).size = q := by rw [← len_eq, hA, List.length_map, List.length_take, len_eq]; omega
    refine l0_loop s hs q (by omega) g2 (fun _ => g1) (s.size + 21) _ (fun k' b hk' hb => ?_) s.size 0 k _ (by omega) (by omega) (by omega) (by rw [List.take_zero, Go.ByteArray.toList_eq]; rfl)
    obtain rfl : b = cutA (upperS s) 45 := ba_eq (hb.trans hA.symm)
    obtain ⟨k', rfl⟩ : ∃ k'', k' = k'' + 1 := ⟨k' - 1, by omega⟩
    rw [squelchref04_Parse.j1, if_neg (by simp), if_pos (by omega)]
    by_cases hex : ∃ m, m < 16 ∧ digs m = s.toList.drop (q + 1)
    · obtain ⟨m, hm, hmd⟩ := hex
      have hn : numOf (cutB (upperS s) 45) = some (m : Int) := numOf_digs _ m hm (by rw [hB, digs_up _ m hm, hmd])
      have := l1_some s q hlt (by omega) (cutA (upperS s) 45) (by omega) m hm hmd 16 0 k' false 0 (by omega) (by omega) (by omega)
      rw [show ((0 : Nat) : Int) = 0 from rfl] at this
      rw [this]
      unfold finP parseS
      rw [if_pos rfl, if_pos hH, hn]
      simp only
      split <;> rfl
    · have := l1_none s q hlt (by omega) (cutA (upperS s) 45) (by omega) 16 0 k' false 0 (by omega) (by omega) (fun y _ hy e => hex ⟨y, hy, e⟩)
      rw [show ((0 : Nat) : Int) = 0 from rfl] at this
      rw [this]
      unfold finP parseS
      rw [if_neg (by simp), if_pos hH]
      cases hn : numOf (cutB (upperS s) 45) with
      | none => rfl
      | some v =>
        simp only
        by_cases hr : rightB (cutA (upperS s) 45) v = true
        · exfalso
          have hr' := hr
          unfold rightB at hr'
          simp only [Bool.and_eq_true, decide_eq_true_eq] at hr'
          obtain ⟨m, hm, rfl, hmd⟩ := numOf_some _ v hn (by omega) (by omega)
          rw [hB, digs_up _ m hm] at hmd
          exact hex ⟨m, hm, hmd.symm⟩
        · rw [if_neg hr]; rfl
  · have hm1 : Lib.indexByte s.toList 45 = -1 := by have := Lib.indexByte_ge s.toList 45; omega
    have hno := Lib.indexByte_none hm1
    have hH : cutHas (upperS s) 45 = false := by unfold cutHas; rw [hix]; exact decide_eq_false hhas
    have hA : cutA (upperS s) 45 = upperS s := by unfold cutA; rw [if_neg (by rw [hH]; simp)]
    refine l0_loop s hs s.size (Nat.le_refl _) (fun j _ => hno j) (fun h => absurd h (by omega)) (s.size + 21) _ (fun k' b hk' hb => ?_) s.size 0 k _ (by omega) (by omega) (by omega) (by rw [List.take_zero, Go.ByteArray.toList_eq]; rfl)
    obtain rfl : b = upperS s := ba_eq (by rw [hb, upper_list, List.take_of_length_le (by rw [len_eq]; omega)])
    obtain ⟨k', rfl⟩ : ∃ k'', k' = k'' + 1 := ⟨k' - 1, by omega⟩
    rw [squelchref04_Parse.j1, if_neg (by simp), if_neg (by omega), ref_right _ _ (by omega) k' (by omega), Option.bind_some]
    have hp : parseS s = if rightB (upperS s) 0 = true then (upperS s, 0, 0) else (⟨#[]⟩, 0, 12) := by
      unfold parseS
      simp only [hH, hA]
      rfl
    rw [hp]
    split <;> rfl
end Go.Proofs.YtpmieapgbdbabaaDoor.Pure
