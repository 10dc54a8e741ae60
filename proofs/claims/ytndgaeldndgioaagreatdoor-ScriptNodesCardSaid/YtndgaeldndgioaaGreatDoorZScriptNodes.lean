/- The row of the law ScriptNodes, out of its walks and its plain law. -/
import Derived.Test.YtndgaeldndgioaaGreatDoorMScriptNodes3
import Derived.Test.YtndgaeldndgioaaGreatDoorMScriptNodes2
import Derived.Test.YtndgaeldndgioaaGreatDoorMScriptNodes0
import Derived.OpenShut
import Derived.Test.YtndgaeldndgioaaGreatDoorRows
import Derived.Test.YtndgaeldndgioaaGreatDoorTie
import Derived.Test.YtndgaeldndgioaaGreatDoorCards
import Derived.WalkKit
import Derived.ProofKit
import Derived.ShutString
import Derived.ChangeOld
import Derived.Below
import Derived.SizedLaws
import Derived.Lib.SmallJoins
import Derived.Deep.Slices
import Derived.Deep.Fields
import Derived.ChangeSame
section
/- What a right call's word is, and that it is read as the call; over plain strings and numbers (out of this session's own texts of the seat of the calls' laws). -/
set_option linter.unusedVariables false
set_option linter.unusedSimpArgs false
namespace Go.Proofs.YtndgaeldndgioaaGreatDoor.Pure
open Go.RowKit Go.Proofs.YtndgaeldndgioaaGreatDoor.QAll Go.Proofs.YtndgaeldndgioaaGreatDoorW.PrintWords Go.Proofs.YtndgaeldndgioaaGreatDoorW.PrintLast Go.Proofs.YtndgaeldndgioaaGreatDoorW.PrintMore
def digs (n : Nat) : List UInt8 := if n < 10 then [UInt8.ofNat (48 + n)] else [UInt8.ofNat (48 + n / 10), UInt8.ofNat (48 + n % 10)]
theorem digs_dec (n : Nat) (h : n < 100) : Lib.decDigits n = digs n := by
  unfold digs
  by_cases h1 : n < 10
  · rw [if_pos h1, Lib.decDigits_one h1]
  · rw [if_neg h1, Lib.decDigits_two h1 h]
theorem ref_digits_all : ((List.range 100).all fun n => decide ((squelchref04_Digits.f (n : Int)).map (·.toList) = some (digs n))) = true := by kernel_rfl
theorem ref_digits (n : Nat) (h : n < 100) : squelchref04_Digits.f (n : Int) = some ⟨(digs n).toArray⟩ := by
  have h1 := of_decide_eq_true (List.all_eq_true.1 ref_digits_all n (List.mem_range.2 h))
  cases hx : squelchref04_Digits.f (n : Int) with
  | none => rw [hx] at h1; cases h1
  | some y =>
    rw [hx] at h1
    congr 1
    apply ba_eq
    rw [Option.map_some] at h1
    rw [Option.some.inj h1, Go.ByteArray.toList_eq]
theorem digs_atoi_all : ((List.range 16).all fun a => decide (Lib.atoiAll (digs a) = .ok (a : Int))) = true := by kernel_rfl
theorem digs_atoi (a : Nat) (ha : a < 16) : Lib.atoiAll (digs a) = .ok (a : Int) := of_decide_eq_true (List.all_eq_true.1 digs_atoi_all a (List.mem_range.2 ha))
theorem numOf_digs (t : ByteArray) (n : Nat) (hn : n < 16) (h : t.toList = digs n) : numOf t = some (n : Int) := by
  unfold numOf
  rw [Go.ByteArray.toList_eq] at h
  rw [h, digs_atoi n hn]
  have : Lib.itoa (n : Int) = digs n := by
    unfold Lib.itoa
    rw [if_neg (by omega)]
    exact digs_dec n (by omega)
  simp only
  rw [if_pos this]
def upB (c : UInt8) : UInt8 := if 97 ≤ c.toNat ∧ c.toNat ≤ 122 then UInt8.ofNat (c.toNat - 32) else c
theorem upper_list (s : ByteArray) : (upperS s).toList = s.toList.map upB := by
  rw [Go.ByteArray.toList_eq, Go.ByteArray.toList_eq]
  unfold upperS upL strOfNums bytesOf
  simp only [List.map_map]
  apply List.map_congr_left
  intro c _
  simp only [Function.comp, upI, upB]
  have hc := c.toNat_lt
  by_cases h : 97 ≤ c.toNat ∧ c.toNat ≤ 122
  · rw [if_pos (by omega), if_pos h]
    congr 1
    omega
  · rw [if_neg (by omega), if_neg h]
    simp
theorem digs_small_all : ((List.range 16).all fun a => (digs a).all fun c => decide (c.toNat < 65)) = true := by kernel_rfl
theorem up_small (l : List UInt8) (h : ∀ c ∈ l.map upB, c.toNat < 65) : l.map upB = l := by
  induction l with
  | nil => rfl
  | cons c r ih =>
    simp only [List.map_cons, List.mem_cons, forall_eq_or_imp] at h ⊢
    rw [ih h.2]
    congr 1
    have h1 := h.1
    unfold upB at h1 ⊢
    split at h1
    · rename_i h2
      rw [UInt8.toNat_ofNat'] at h1
      have hc := c.toNat_lt
      omega
    · rename_i h2; rw [if_neg h2]
theorem up_fix (l : List UInt8) (h : ∀ c ∈ l, c.toNat < 97) : l.map upB = l := by
  induction l with
  | nil => rfl
  | cons c r ih =>
    simp only [List.mem_cons, forall_eq_or_imp, List.map_cons] at h ⊢
    rw [ih h.2]
    congr 1
    unfold upB
    rw [if_neg (by omega)]
theorem right_parts {s : ByteArray} {n : Int} (h : rightB s n = true) : (∀ c ∈ s.toList, (65 ≤ c.toNat ∧ c.toNat ≤ 90) ∨ (48 ≤ c.toNat ∧ c.toNat ≤ 57)) ∧ 1 ≤ s.size ∧ s.size ≤ 6 ∧ 0 ≤ n ∧ n ≤ 15 := by
  unfold rightB at h
  simp only [Bool.and_eq_true, decide_eq_true_eq] at h
  refine ⟨fun c hc => ?_, h.2⟩
  have h1 := h.1
  unfold letsB at h1
  rw [← Go.ByteArray.toList_eq] at h1
  have := List.all_eq_true.1 h1 c hc
  unfold letB at this
  simp only [decide_eq_true_eq] at this
  omega
/-- A right call's word. -/
def textS (s : ByteArray) (n : Int) : ByteArray := if n = 0 then s else (s ++ (⟨#[45]⟩ : ByteArray)) ++ ⟨(digs n.toNat).toArray⟩
theorem digs_len (n : Nat) : (digs n).length ≤ 2 := by unfold digs; split <;> simp
theorem digs_size (n : Nat) : (⟨(digs n).toArray⟩ : ByteArray).size ≤ 2 := by
  have := digs_len n
  show (digs n).toArray.size ≤ 2
  simpa using this
theorem ref_text (s : ByteArray) (n : Int) (hr : rightB s n = true) : squelchref04_Text.f s n = some (textS s n) := by
  obtain ⟨_, _, h3, h1, h2⟩ := right_parts hr
  unfold squelchref04_Text.f textS
  by_cases h0 : n = 0
  · rw [if_pos h0, if_pos h0]
  · obtain ⟨m, rfl⟩ := Int.eq_ofNat_of_zero_le h1
    have hd := digs_size m
    rw [if_neg h0, if_neg h0, if_pos (by omega), ref_digits m (by omega), Option.bind_some, show ((m : Int)).toNat = m from by omega]
    rw [if_pos (by
      simp only [ByteArray.size_append]
      have h1 : (⟨#[45]⟩ : ByteArray).size = 1 := rfl
      omega)]
theorem index_app : ∀ (l r : List UInt8), (∀ c ∈ l, c ≠ 45) → Lib.indexByte (l ++ 45 :: r) 45 = l.length
  | [], r, _ => by simp [Lib.indexByte]
  | c :: l, r, h => by
    have ih := index_app l r (fun x hx => h x (List.mem_cons_of_mem _ hx))
    have hc : (c == 45) = false := beq_eq_false_iff_ne.2 (h c (List.mem_cons_self ..))
    simp only [List.cons_append, Lib.indexByte, hc, ih]
    rw [if_neg (by simp), if_neg (by rw [beq_iff_eq]; omega)]
    simp
theorem index_no : ∀ (l : List UInt8), (∀ c ∈ l, c ≠ 45) → Lib.indexByte l 45 = -1
  | [], _ => rfl
  | c :: l, h => by
    have ih := index_no l (fun x hx => h x (List.mem_cons_of_mem _ hx))
    have hc : (c == 45) = false := beq_eq_false_iff_ne.2 (h c (List.mem_cons_self ..))
    simp only [Lib.indexByte, hc, ih]
    rfl
theorem parse_text (s : ByteArray) (n : Int) (hr : rightB s n = true) : parseS (textS s n) = (s, n, 0) := by
  obtain ⟨hl, _, h3, h1, h2⟩ := right_parts hr
  have h45 : ∀ c ∈ s.toList, c ≠ 45 := fun c hc e => by
    have := hl c hc
    subst e
    simp at this
  by_cases h0 : n = 0
  · subst h0
    have ht : textS s 0 = s := by unfold textS; rw [if_pos rfl]
    have hu : upperS s = s := ba_eq (by rw [upper_list]; exact up_fix _ fun c hc => by have := hl c hc; omega)
    rw [ht]
    have hH : cutHas s 45 = false := by unfold cutHas; rw [← Go.ByteArray.toList_eq, index_no _ h45]; rfl
    have hA : cutA s 45 = s := by unfold cutA; rw [hH]; rfl
    unfold parseS
    simp only [hu, hH, hA, hr]
    rfl
  · obtain ⟨m, rfl⟩ := Int.eq_ofNat_of_zero_le h1
    have hm : m < 16 := by omega
    have hd : ∀ c ∈ digs m, c.toNat < 65 := fun c hc => of_decide_eq_true (List.all_eq_true.1 (List.all_eq_true.1 digs_small_all m (List.mem_range.2 hm)) c hc)
    have htl : (textS s (m : Int)).toList = s.toList ++ 45 :: digs m := by
      unfold textS
      rw [if_neg h0, toList_app, toList_app, show ((m : Int)).toNat = m from by omega]
      have e1 : (⟨#[45]⟩ : ByteArray).toList = [45] := by rw [Go.ByteArray.toList_eq]
      have e2 : (⟨(digs m).toArray⟩ : ByteArray).toList = digs m := by rw [Go.ByteArray.toList_eq]
      rw [e1, e2]
      simp
    generalize hT : textS s (m : Int) = t at htl ⊢
    have hu : upperS t = t := ba_eq (by
      rw [upper_list]
      refine up_fix _ fun c hc => ?_
      rw [htl] at hc
      rcases List.mem_append.1 hc with hc | hc
      · have := hl c hc; omega
      · rcases List.mem_cons.1 hc with rfl | hc
        · decide
        · have := hd c hc; omega)
    have hix : Lib.indexByte t.data.toList 45 = (s.toList.length : Int) := by rw [← Go.ByteArray.toList_eq, htl, index_app _ _ h45]
    have hH : cutHas t 45 = true := by unfold cutHas; rw [hix]; exact decide_eq_true (by omega)
    have hI : idxOf t 45 = s.toList.length := by unfold idxOf; rw [hix]; rfl
    have hA : cutA t 45 = s := ba_eq (by
      unfold cutA; rw [if_pos hH, hI, toList_ext, htl, List.drop_zero, List.take_left'] <;> rfl)
    have hB : (cutB t 45).toList = digs m := by
      unfold cutB
      rw [if_pos hH, hI, toList_ext, List.take_of_length_le (by rw [len_eq]; omega), htl]
      have : s.toList ++ 45 :: digs m = (s.toList ++ [45]) ++ digs m := by simp
      rw [this, List.drop_left' (by simp)]
    unfold parseS
    simp only [hu, hH, hA, numOf_digs _ m hm hB, hr]
    rfl
theorem callT_text (d : S37) (h : rightB d.f0 d.f1 = true) : callT d = textS d.f0 d.f1 := by
  unfold callT textS
  rw [if_pos h]
  obtain ⟨_, _, _, h1, h2⟩ := right_parts h
  obtain ⟨m, hm⟩ := Int.eq_ofNat_of_zero_le h1
  by_cases h0 : d.f1 = 0
  · rw [if_pos h0, if_pos h0]
  · rw [if_neg h0, if_neg h0, hm]
    unfold itoaB
    rw [itoa_pos, digs_dec m (by omega)]
    rfl
theorem callP_callT (d : S37) (h : rightB d.f0 d.f1 = true) : callP (callT d) = d := by
  unfold callP
  rw [callT_text d h, parse_text d.f0 d.f1 h]
theorem ref_callT (d : S37) (h : rightB d.f0 d.f1 = true) : squelchref04_Text.f d.f0 d.f1 = some (callT d) := by
  rw [callT_text d h]
  exact ref_text d.f0 d.f1 h
theorem callT_bytes (d : S37) (h : rightB d.f0 d.f1 = true) : (∀ c ∈ (callT d).toList, c ≠ 32 ∧ c ≠ 44) ∧ 1 ≤ (callT d).size ∧ (callT d).toList ≠ [45] := by
  obtain ⟨hl, h1, h6, h2, h3⟩ := right_parts h
  have h0 : d.f0.toList ≠ [] := fun e => by
    have := len_eq d.f0
    rw [e] at this
    simp at this
    omega
  rw [callT_text d h]
  obtain ⟨m, hm⟩ := Int.eq_ofNat_of_zero_le h2
  have hq : ∀ c : UInt8, ((65 ≤ c.toNat ∧ c.toNat ≤ 90) ∨ (48 ≤ c.toNat ∧ c.toNat ≤ 57)) → c ≠ 32 ∧ c ≠ 44 ∧ c ≠ 45 := fun c hc => by
    refine ⟨?_, ?_, ?_⟩ <;> rintro rfl <;> simp at hc
  by_cases hz : d.f1 = 0
  · unfold textS
    rw [if_pos hz]
    refine ⟨fun c hc => ⟨(hq c (hl c hc)).1, (hq c (hl c hc)).2.1⟩, h1, fun e => ?_⟩
    exact (hq 45 (hl 45 (by rw [e]; simp))).2.2 rfl
  · have htl : (textS d.f0 d.f1).toList = d.f0.toList ++ 45 :: digs m := by
      unfold textS
      rw [if_neg hz, toList_app, toList_app, hm, show ((m : Int)).toNat = m from by omega]
      have e1 : (⟨#[45]⟩ : ByteArray).toList = [45] := by rw [Go.ByteArray.toList_eq]
      have e2 : (⟨(digs m).toArray⟩ : ByteArray).toList = digs m := by rw [Go.ByteArray.toList_eq]
      rw [e1, e2]
      simp
    have hd : ∀ c ∈ digs m, c ≠ 32 ∧ c ≠ 44 := by
      have hall : ((List.range 16).all fun a => (digs a).all fun c => decide (c ≠ 32 ∧ c ≠ 44)) = true := by kernel_rfl
      exact fun c hc => of_decide_eq_true (List.all_eq_true.1 (List.all_eq_true.1 hall m (List.mem_range.2 (by omega))) c hc)
    refine ⟨fun c hc => ?_, ?_, fun e => ?_⟩
    · rw [htl] at hc
      rcases List.mem_append.1 hc with hc | hc
      · exact ⟨(hq c (hl c hc)).1, (hq c (hl c hc)).2.1⟩
      · rcases List.mem_cons.1 hc with rfl | hc
        · decide
        · exact hd c hc
    · rw [← len_eq, htl]; simp; omega
    · rw [htl] at e
      cases hf : d.f0.toList with
      | nil => exact h0 hf
      | cons x r =>
        rw [hf] at e
        injection e with e1 e2
        simp at e2
theorem num_back (n : Int) (h0 : 0 ≤ n) (h1 : n ≤ 999) : atoiN (itoaB n) = n := by
  have h := num_atoi n (by omega) (by omega)
  unfold atoiV at h
  unfold atoiN
  cases hx : Lib.atoiAll (itoaB n).data.toList with
  | ok v => rw [hx] at h; exact Option.some.inj h
  | _ => rw [hx] at h; cases h
theorem split_words (l : List ByteArray) (c : UInt8) (h0 : l ≠ []) (h : ∀ x ∈ l, ∀ b ∈ x.toList, b ≠ c) : splitS (joinS l ⟨#[c]⟩) ⟨#[c]⟩ = l := by
  apply map_inj
  rw [split_list]
  have hj : (joinS l ⟨#[c]⟩).toList = Lib.join (l.map (·.toList)) [c] := by
    rw [Go.ByteArray.toList_eq]
    unfold joinS joinL
    have : (l.map fun x : ByteArray => x.toList) = l.map fun x : ByteArray => x.data.toList := List.map_congr_left (fun x _ => Go.ByteArray.toList_eq x)
    simp only [this]
  rw [hj]
  cases l with
  | nil => exact absurd rfl h0
  | cons x r => exact split_join c (r.map (·.toList)) x.toList (fun y hy b hb => by
      have hy' : y ∈ (x :: r).map (fun z : ByteArray => z.toList) := hy
      obtain ⟨z, hz, rfl⟩ := List.mem_map.1 hy'
      exact h z hz b hb)
theorem join_mem (c : UInt8) : ∀ (l : List ByteArray) (b : UInt8), b ∈ (joinS l ⟨#[c]⟩).toList → b = c ∨ ∃ x ∈ l, b ∈ x.toList := by
  intro l b hb
  rw [Go.ByteArray.toList_eq] at hb
  have hb' : b ∈ joinL l ⟨#[c]⟩ := by simpa [joinS] using hb
  unfold joinL at hb'
  clear hb
  cases l with
  | nil => simp [Lib.join_nil] at hb'
  | cons x r =>
    rw [List.map_cons, Lib.join_cons] at hb'
    rcases List.mem_append.1 hb' with h | h
    · exact Or.inr ⟨x, List.mem_cons_self .., by rw [Go.ByteArray.toList_eq]; exact h⟩
    · have : ∀ (r : List (List UInt8)), b ∈ Lib.joinTail [c] r → b = c ∨ ∃ y ∈ r, b ∈ y := by
        intro r
        induction r with
        | nil => intro h; simp [Lib.joinTail] at h
        | cons y r ih =>
          intro h
          have h' : b ∈ [c] ++ y ++ Lib.joinTail [c] r := by simpa [Lib.joinTail] using h
          rcases List.mem_append.1 h' with h1 | h1
          · rcases List.mem_append.1 h1 with h2 | h2
            · exact Or.inl (by simpa using h2)
            · exact Or.inr ⟨y, List.mem_cons_self .., h2⟩
          · rcases ih h1 with h2 | ⟨z, hz, h2⟩
            · exact Or.inl h2
            · exact Or.inr ⟨z, List.mem_cons_of_mem _ hz, h2⟩
      rcases this _ h with h1 | ⟨y, hy, h1⟩
      · exact Or.inl h1
      · obtain ⟨z, hz, rfl⟩ := List.mem_map.1 hy
        exact Or.inr ⟨z, List.mem_cons_of_mem _ hz, by rw [Go.ByteArray.toList_eq]; exact h1⟩
theorem ali_back (l : List S37) (h : ∀ d ∈ l, rightB d.f0 d.f1 = true) : aliL (alT l) = l := by
  cases l with
  | nil =>
    unfold aliL alT
    rw [if_pos rfl, if_pos rfl]
  | cons d r =>
    have ha : alT (d :: r) = joinS ((d :: r).map callT) ⟨#[44]⟩ := by unfold alT; rw [if_neg (by simp)]
    have hsp := split_words ((d :: r).map callT) 44 (by simp) (fun x hx b hb => by
      obtain ⟨z, hz, rfl⟩ := List.mem_map.1 hx
      exact ((callT_bytes z (h z hz)).1 b hb).2)
    unfold aliL
    rw [ha, if_neg, hsp, List.map_map]
    · have : ∀ l : List S37, (∀ d ∈ l, rightB d.f0 d.f1 = true) → l.map (callP ∘ callT) = l := by
        intro l
        induction l with
        | nil => intro _; rfl
        | cons x l ih =>
          intro hl
          rw [List.map_cons, ih (fun d hd => hl d (List.mem_cons_of_mem _ hd))]
          show callP (callT x) :: l = _
          rw [callP_callT x (hl x (List.mem_cons_self ..))]
      exact this _ h
    · intro he
      rw [he] at hsp
      have h1 : splitS (⟨#[45]⟩ : ByteArray) ⟨#[44]⟩ = [⟨#[45]⟩] := by
        apply map_inj
        rw [split_list]
        have e1 : (⟨#[45]⟩ : ByteArray).toList = [45] := by rw [Go.ByteArray.toList_eq]
        rw [e1]
        simp only [List.map_cons, List.map_nil, e1]
        exact splitL_no' 44 [45] (by simp)
      rw [h1, List.map_cons] at hsp
      injection hsp with h2 _
      apply (callT_bytes d (h d (List.mem_cons_self ..))).2.2
      rw [← h2, Go.ByteArray.toList_eq]
theorem nodeW_blank {c : Cfg} (h : Fine c) : ∀ x ∈ nodeW c, ∀ b ∈ x.toList, b ≠ 32 := by
  intro x hx b hb
  unfold nodeW at hx
  rw [nodeN_nums] at hx
  rcases List.mem_append.1 hx with hx | hx
  · simp only [List.mem_cons, List.not_mem_nil, or_false] at hx
    rcases hx with rfl | rfl | rfl
    · rw [Go.ByteArray.toList_eq] at hb
      simp at hb
      rcases hb with rfl | rfl | rfl | rfl <;> decide
    · exact ((callT_bytes ⟨c.a0, c.a1⟩ h.r).1 b hb).1
    · unfold alT at hb
      split at hb
      · rw [Go.ByteArray.toList_eq] at hb
        simp at hb
        rw [hb]
        decide
      · rcases join_mem 44 _ b hb with rfl | ⟨y, hy, hb⟩
        · decide
        · obtain ⟨d, hd, rfl⟩ := List.mem_map.1 hy
          exact ((callT_bytes d (dist_right _ _ h.d d (List.mem_cons_of_mem _ hd))).1 b hb).1
  · obtain ⟨n, hn, rfl⟩ := List.mem_map.1 hx
    have h1 := nums_small h n hn
    exact num_blank n (by omega) (by omega) b hb
theorem node_split {c : Cfg} (h : Fine c) : splitS (joinS (nodeW c) ⟨#[32]⟩) ⟨#[32]⟩ = nodeW c := split_words _ 32 (by unfold nodeW; simp) (nodeW_blank h)
theorem bit_back (b : Bool) : decide (atoiN (itoaB (bitI b)) = 1) = b := by
  have := bitI_small b
  rw [num_back _ this.1 (by omega)]
  cases b <;> rfl
theorem node_back {c : Cfg} (h : Fine c) : cfgS (joinS (nodeW c) ⟨#[32]⟩) = c := by
  unfold cfgS
  rw [node_split h]
  have hx := xidB_small h.x
  have ht := tncB_small h.t
  show cfgOf (callT ⟨c.a0, c.a1⟩) (alT c.l1) (nodeN c.b0 c.b1 c.b2 c.b3 c.b4 c.b5 c.p0 c.p1 c.p2 c.p3 c.p4) = c
  unfold cfgOf cfg0
  rw [callP_callT _ h.r, ali_back _ (fun d hd => dist_right _ _ h.d d (List.mem_cons_of_mem _ hd))]
  unfold nodeN
  simp only [cfgL, cfgN, bit_back]
  rw [num_back c.b2 (by omega) (by omega), num_back c.b3 (by omega) (by omega), num_back c.b4 (by omega) (by omega), num_back c.b5 (by omega) (by omega), num_back c.p0 (by omega) (by omega), num_back c.p1 (by omega) (by omega), num_back c.p2 (by omega) (by omega), num_back c.p3 (by omega) (by omega)]
theorem node_conf {c : Cfg} (h0 : newOf c = 0) : confOk (nodeS c) = true ∧ cfgS (nodeS c) = c := by
  have h := fine_of h0
  have hs : nodeS c = joinS (nodeW c) ⟨#[32]⟩ := by unfold nodeS; rw [if_pos h0]
  have hb := node_back h
  rw [← hs] at hb
  refine ⟨?_, hb⟩
  unfold confOk
  rw [hb, decide_eq_true rfl, hs, node_split h]
  rfl
theorem alT_60 {c : Cfg} (h : Fine c) : (alT c.l1).size ≤ 60 := by
  unfold alT
  split
  · decide
  · rename_i hne
    have hr := fun d hd => dist_right _ _ h.d d (List.mem_cons_of_mem _ hd)
    have hn := h.n
    generalize c.l1 = l at *
    cases l with
    | nil => exact absurd rfl hne
    | cons x r =>
      have := join_le 44 12 ((r.map callT).map (·.data.toList)) (callT x).data.toList (fun y hy => by
        have hy' : y ∈ ((x :: r).map callT).map (fun z : ByteArray => z.data.toList) := hy
        obtain ⟨z, hz, rfl⟩ := List.mem_map.1 hy'
        obtain ⟨d, hd, rfl⟩ := List.mem_map.1 hz
        have := callT_size d (hr d hd)
        simpa using this)
      have h2 : (joinS (callT x :: r.map callT) ⟨#[44]⟩).size ≤ (r.length + 1) * 13 := by
        have h3 : (joinS (callT x :: r.map callT) ⟨#[44]⟩).size = (joinL (callT x :: r.map callT) ⟨#[44]⟩).length := by
          show (List.toArray _).size = _
          simp [joinS]
        rw [h3]
        unfold joinL
        simpa using this
      rw [List.map_cons]
      simp at hn
      omega
theorem node_size {c : Cfg} (h0 : newOf c = 0) : (nodeS c).size ≤ 1000 := by
  have h := fine_of h0
  unfold nodeS
  rw [if_pos h0]
  have h3 : (joinS (nodeW c) ⟨#[32]⟩).size = (joinL (nodeW c) ⟨#[32]⟩).length := by
    show (List.toArray _).size = _
    simp [joinS]
  rw [h3]
  have hw : ∀ x ∈ nodeW c, x.data.toList.length ≤ 60 := by
    intro x hx
    have e : x.data.toList.length = x.size := by simp
    rw [e]
    unfold nodeW at hx
    rw [nodeN_nums] at hx
    rcases List.mem_append.1 hx with hx | hx
    · simp only [List.mem_cons, List.not_mem_nil, or_false] at hx
      rcases hx with rfl | rfl | rfl
      · decide
      · have := callT_size ⟨c.a0, c.a1⟩ h.r
        omega
      · exact alT_60 h
    · obtain ⟨n, hn, rfl⟩ := List.mem_map.1 hx
      have h1 := nums_small h n hn
      have := num_size n (by omega) (by omega)
      omega
  have hl : (nodeW c).length = 14 := rfl
  unfold joinL
  generalize nodeW c = l at hw hl
  cases l with
  | nil => simp at hl
  | cons x r =>
    have := join_le 32 60 (r.map (·.data.toList)) x.data.toList (fun y hy => by
      have hy' : y ∈ (x :: r).map (fun z : ByteArray => z.data.toList) := hy
      obtain ⟨z, hz, rfl⟩ := List.mem_map.1 hy'
      exact hw z hz)
    have h2 : (Lib.join ((x :: r).map (·.data.toList)) (⟨#[32]⟩ : ByteArray).data.toList).length ≤ (r.length + 1) * 61 := by simpa using this
    have h3 : r.length + 1 = 14 := by simpa using hl
    omega
/-- The reference's line is the program's. -/
theorem lacc_join (ws : List ByteArray) (s : ByteArray) : ∀ i, 0 < i → i ≤ ws.length → (lacc ws s i).toList = s.toList ++ Lib.join ((ws.take i).map (·.toList)) [44]
  | 1, _, hi => by
    have hx : ws[0]? = some (ws.getD 0 ByteArray.empty) := by
      rw [List.getD_eq_getElem?_getD, List.getElem?_eq_getElem (by omega)]
      rfl
    show (lstep 0 s (ws.getD 0 ByteArray.empty)).toList = _
    unfold lstep
    rw [if_neg (by omega), toList_app, List.take_add_one, hx]
    simp [Lib.join_one]
  | i + 2, _, hi => by
    have ih := lacc_join ws s (i + 1) (by omega) (by omega)
    have hx : ws[i + 1]? = some (ws.getD (i + 1) ByteArray.empty) := by
      rw [List.getD_eq_getElem?_getD, List.getElem?_eq_getElem (by omega)]
      rfl
    show (lstep (i + 1) (lacc ws s (i + 1)) (ws.getD (i + 1) ByteArray.empty)).toList = _
    unfold lstep
    have htk : ws.take (i + 2) = ws.take (i + 1) ++ [ws.getD (i + 1) ByteArray.empty] := by
      rw [List.take_add_one, hx]
      rfl
    have e1 : (⟨#[44]⟩ : ByteArray).toList = [44] := by rw [Go.ByteArray.toList_eq]
    rw [if_pos (by omega), toList_app, toList_app, ih, htk, e1, List.map_append, List.map_cons, List.map_nil]
    generalize ws.getD (i + 1) ByteArray.empty = x
    have hne : ws.take (i + 1) ≠ [] := by
      intro e
      have hq := congrArg List.length e
      rw [List.length_take, List.length_nil] at hq
      omega
    generalize ws.take (i + 1) = q at hne
    cases q with
    | nil => exact absurd rfl hne
    | cons y r =>
      rw [List.map_cons, List.cons_append, Lib.join_cons, Lib.join_cons]
      have : ∀ (r : List (List UInt8)) (z : List UInt8), Lib.joinTail [44] (r ++ [z]) = Lib.joinTail [44] r ++ [44] ++ z := by
        intro r z
        induction r with
        | nil => simp [Lib.joinTail]
        | cons u r ih => simp [Lib.joinTail] at ih ⊢
      rw [this]
      simp
theorem join_toList (l : List ByteArray) (c : UInt8) : (joinS l ⟨#[c]⟩).toList = Lib.join (l.map (·.toList)) [c] := by
  rw [Go.ByteArray.toList_eq]
  unfold joinS joinL
  have : (l.map fun x : ByteArray => x.toList) = l.map fun x : ByteArray => x.data.toList := List.map_congr_left (fun x _ => Go.ByteArray.toList_eq x)
  simp only [this]
theorem nacc_list (ns : List Int) (s : ByteArray) : ∀ i, i ≤ ns.length → (nacc ns s i).toList = s.toList ++ ((ns.take i).map (fun n => [32] ++ (itoaB n).toList)).flatten
  | 0, _ => by simp [nacc]
  | i + 1, hi => by
    have ih := nacc_list ns s i (by omega)
    have hx : ns[i]? = some (ns.getD i 0) := by
      rw [List.getD_eq_getElem?_getD, List.getElem?_eq_getElem (by omega)]
      rfl
    have e1 : (⟨#[32]⟩ : ByteArray).toList = [32] := by rw [Go.ByteArray.toList_eq]
    show (nacc ns s i ++ _).toList = _
    rw [toList_app, toList_app, ih, e1, List.take_add_one, hx]
    simp
theorem lmid_list {c : Cfg} : (lmid (callT ⟨c.a0, c.a1⟩) (c.l1.map callT)).toList = (lpre (callT ⟨c.a0, c.a1⟩)).toList ++ (alT c.l1).toList := by
  unfold lmid alT
  by_cases he : c.l1 = []
  · rw [he, if_pos (by rfl), if_pos rfl, toList_app]
  · have hne : ¬ c.l1.map callT = [] := by simpa using he
    rw [if_neg hne, if_neg he, lacc_join _ _ _ (List.length_pos_iff.2 hne) (Nat.le_refl _), List.take_length, join_toList]
theorem line_node {c : Cfg} (h : Fine c) : lineS (callT ⟨c.a0, c.a1⟩) (c.l1.map callT) (nums c) = joinS (nodeW c) ⟨#[32]⟩ := by
  apply ba_eq
  unfold lineS
  rw [nacc_list _ _ 11 (Nat.le_refl _), lmid_list, join_toList]
  have hw : (nodeW c).map (·.toList) = [78, 79, 68, 69] :: (callT ⟨c.a0, c.a1⟩).toList :: (alT c.l1).toList :: (nums c).map (fun n => (itoaB n).toList) := by
    unfold nodeW
    rw [nodeN_nums]
    have e1 : (⟨#[78, 79, 68, 69]⟩ : ByteArray).toList = [78, 79, 68, 69] := by rw [Go.ByteArray.toList_eq]
    simp [e1]
  have hp : (lpre (callT ⟨c.a0, c.a1⟩)).toList = [78, 79, 68, 69, 32] ++ (callT ⟨c.a0, c.a1⟩).toList ++ [32] := by
    unfold lpre
    have e1 : (⟨#[78, 79, 68, 69, 32]⟩ : ByteArray).toList = [78, 79, 68, 69, 32] := by rw [Go.ByteArray.toList_eq]
    have e2 : (⟨#[32]⟩ : ByteArray).toList = [32] := by rw [Go.ByteArray.toList_eq]
    rw [toList_app, toList_app, e1, e2]
  rw [hw, hp, Lib.join_cons]
  have ht : (nums c).take 11 = nums c := rfl
  rw [ht]
  unfold Lib.joinTail
  simp [Function.comp_def]
end Go.Proofs.YtndgaeldndgioaaGreatDoor.Pure
end

section
/- squelchlaw30.ScriptNodes, walked by hand: it is true of any node. -/
set_option linter.unusedVariables false
set_option linter.unusedSimpArgs false
namespace Go.Proofs.YtndgaeldndgioaaGreatDoor.QAll
open Go.RowKit Go.Proofs.YtndgaeldndgioaaGreatDoorW.PrintWords Go.Proofs.YtndgaeldndgioaaGreatDoorW.PrintLast Go.Proofs.YtndgaeldndgioaaGreatDoorW.PrintMore
theorem eqB37 (d : Nat) (w : World) (s : ByteArray) (n : Int) : (Op.equalIn (d + 2) 37 (.agg #[.string s, .int .i64 n]) (.agg #[.string s, .int .i64 n])).run Tryz.prog w = .ok true w := by
 refine eqA_of Tryz.underlying37 (by kernel_rfl) ?_
 refine eqf_cons (r := true) (s := true) (by rfl) (by go_simp; rfl) (by go_simp; rfl) (by go_simp) ?_
 exact eqf_last (by rfl) (by go_simp; rfl) (by go_simp; rfl) (by go_simp)
theorem eqB40 (d : Nat) (w : World) (b0 b1 : Bool) (b2 b3 b4 b5 : Int) : (Op.equalIn (d + 2) 40 (.agg #[.bool b0, .bool b1, .int .i64 b2, .int .i64 b3, .int .i64 b4, .int .i64 b5]) (.agg #[.bool b0, .bool b1, .int .i64 b2, .int .i64 b3, .int .i64 b4, .int .i64 b5])).run Tryz.prog w = .ok true w := by
 refine eqA_of Tryz.underlying40 (by kernel_rfl) ?_
 refine eqf_cons (r := true) (s := true) (by rfl) (by go_simp; rfl) (by go_simp; rfl) (by go_simp) ?_
 refine eqf_cons (r := true) (s := true) (by rfl) (by go_simp; rfl) (by go_simp; rfl) (by go_simp) ?_
 refine eqf_cons (r := true) (s := true) (by rfl) (by go_simp; rfl) (by go_simp; rfl) (by go_simp) ?_
 refine eqf_cons (r := true) (s := true) (by rfl) (by go_simp; rfl) (by go_simp; rfl) (by go_simp) ?_
 refine eqf_cons (r := true) (s := true) (by rfl) (by go_simp; rfl) (by go_simp; rfl) (by go_simp) ?_
 exact eqf_last (by rfl) (by go_simp; rfl) (by go_simp; rfl) (by go_simp)
theorem eqB42 (d : Nat) (w : World) (p0 p1 p2 p3 : Int) (p4 : Bool) : (Op.equalIn (d + 2) 42 (.agg #[.int .i64 p0, .int .i64 p1, .int .i64 p2, .int .i64 p3, .bool p4]) (.agg #[.int .i64 p0, .int .i64 p1, .int .i64 p2, .int .i64 p3, .bool p4])).run Tryz.prog w = .ok true w := by
 refine eqA_of Tryz.underlying42 (by kernel_rfl) ?_
 refine eqf_cons (r := true) (s := true) (by rfl) (by go_simp; rfl) (by go_simp; rfl) (by go_simp) ?_
 refine eqf_cons (r := true) (s := true) (by rfl) (by go_simp; rfl) (by go_simp; rfl) (by go_simp) ?_
 refine eqf_cons (r := true) (s := true) (by rfl) (by go_simp; rfl) (by go_simp; rfl) (by go_simp) ?_
 refine eqf_cons (r := true) (s := true) (by rfl) (by go_simp; rfl) (by go_simp; rfl) (by go_simp) ?_
 exact eqf_last (by rfl) (by go_simp; rfl) (by go_simp; rfl) (by go_simp)
theorem node_law (c : Cfg) (hok : CfgOk c) (h0 : newOf c = 0) :
  (∀ (A : Option Addr) (n : Nat) (w : World), Kd.C k37 w A c.l1.length c.l1 → c.l1.length ≤ n →
   Calls Tryz.prog 14 #[cfgV c A n] w fun e w' => ∃ A2 n2, e = .returned (.agg #[.string (callT ⟨c.a0, c.a1⟩), .slice A2 c.l1.length n2, .int .i64 (bitI c.b0), .int .i64 (bitI c.b1), .int .i64 c.b2, .int .i64 c.b3, .int .i64 c.b4, .int .i64 c.b5, .int .i64 c.p0, .int .i64 c.p1, .int .i64 c.p2, .int .i64 c.p3, .int .i64 (bitI c.p4)]) ∧ Kd.C Kd.string w' A2 c.l1.length (c.l1.map callT) ∧ c.l1.length ≤ n2 ∧ Below w.heap.size w w') ∧
  (∀ (A : Option Addr) (n : Nat) (w : World), Kd.C Kd.string w A c.l1.length (c.l1.map callT) → c.l1.length ≤ n →
   Calls Tryz.prog 13 #[.agg #[.string (callT ⟨c.a0, c.a1⟩), .slice A c.l1.length n, .int .i64 (bitI c.b0), .int .i64 (bitI c.b1), .int .i64 c.b2, .int .i64 c.b3, .int .i64 c.b4, .int .i64 c.b5, .int .i64 c.p0, .int .i64 c.p1, .int .i64 c.p2, .int .i64 c.p3, .int .i64 (bitI c.p4)]] w fun e w' => e = .returned (.string (nodeS c)) ∧ Below w.heap.size w w') := by
 have hf := fine_of h0
 refine ⟨fun A n w hr hn => ?_, fun A n w hr hn => ?_⟩
 ·obtain ⟨a0, a1, l1, b0, b1, b2, b3, b4, b5, p0, p1, p2, p3, p4⟩ := c
  refine (lawconf_calls a0 a1 A n l1 b0 b1 b2 b3 b4 b5 p0 p1 p2 p3 p4 w hr hn (by have : l1.length ≤ 4 := hf.n; omega) (fun d hd => Pure.ref_callT d (dist_right _ _ hf.d d hd))).mono ?_
  rintro e w' ⟨A2, n2, rfl, hR, hb⟩
  obtain ⟨h1, h2, h3⟩ := Kd.R_reads' hR
  rw [← h1] at h3
  exact ⟨A2, n2, rfl, h3, h2, hb⟩
 ·have hl : (c.l1.map callT).length = c.l1.length := List.length_map ..
  rw [← hl] at hr hn ⊢
  refine (rline_calls (callT ⟨c.a0, c.a1⟩) A n (c.l1.map callT) _ _ _ _ _ _ _ _ _ _ _ w hr hn (by rw [hl]; have := hf.n; omega) (by have := callT_size ⟨c.a0, c.a1⟩ hf.r; omega) (fun x hx => ?_) (nums_small hf)).mono ?_
  ·obtain ⟨d, hd, rfl⟩ := List.mem_map.1 hx
   have := callT_size d (dist_right _ _ hf.d d (List.mem_cons_of_mem _ hd))
   omega
  ·rintro e w' ⟨rfl, hb⟩
   refine ⟨?_, hb⟩
   have hj := Pure.line_node hf
   unfold nums at hj
   rw [hj]
   unfold nodeS
   rw [if_pos h0]
def i64B (n : Int) : Bool := (Lit.int .i64 n).wf
def nodesOk (a0 : ByteArray) (a1 : Int) (l1 : List S37) (b2 b3 b4 b5 p0 p1 p2 p3 : Int) : Bool :=
 decide (a0.size ≤ 9223372036854775807) && (i64B a1 && ((l1.all fun d => decide (d.f0.size ≤ 9223372036854775807) && i64B d.f1) && (i64B b2 && (i64B b3 && (i64B b4 && (i64B b5 && (i64B p0 && (i64B p1 && (i64B p2 && i64B p3)))))))))
theorem i64_of {n : Int} (h : i64B n = true) : I64 n := by
 unfold i64B at h
 have := Go.bounds_i64 h
 exact this
theorem nodes_ok {a0 : ByteArray} {a1 : Int} {l1 : List S37} {b2 b3 b4 b5 p0 p1 p2 p3 : Int} (b0 b1 p4 : Bool) (h : nodesOk a0 a1 l1 b2 b3 b4 b5 p0 p1 p2 p3 = true) (hl : l1.length ≤ 30) : CfgOk ⟨a0, a1, l1, b0, b1, b2, b3, b4, b5, p0, p1, p2, p3, p4⟩ := by
 unfold nodesOk at h
 simp only [Bool.and_eq_true, decide_eq_true_eq, List.all_eq_true] at h
 obtain ⟨h0, h1, h2, h3, h4, h5, h6, h7, h8, h9, h10⟩ := h
 refine ⟨by show l1.length ≤ 900000; omega, fun d hd => ?_, i64_of h3, i64_of h4, i64_of h5, i64_of h6, i64_of h7, i64_of h8, i64_of h9, i64_of h10⟩
 rcases List.mem_cons.1 hd with rfl | hd
 ·exact ⟨h0, i64_of h1⟩
 ·exact ⟨(h2 d hd).1, i64_of (h2 d hd).2⟩
def squelchlaw30_ScriptNodes.f (k : Nat) (a0 : ByteArray) (a1 : Int) (l1 : List S37) (b0 b1 : Bool) (b2 b3 b4 b5 p0 p1 p2 p3 : Int) (p4 : Bool) : Option Bool :=
 if nodesOk a0 a1 l1 b2 b3 b4 b5 p0 p1 p2 p3 = true then some true else none
set_option maxHeartbeats 8000000 in
set_option maxRecDepth 100000 in
theorem squelchlaw30_ScriptNodes.calls (k : Nat) (a0 : ByteArray) (a1 : Int) (A : Option Addr) (n : Nat) (l1 : List S37) (b0 b1 : Bool) (b2 b3 b4 b5 p0 p1 p2 p3 : Int) (p4 : Bool) (r : Bool) (w : World) (hE_ : EnvW w) (hT_ : r = true) (hr : Kd.C k37 w A l1.length l1) (hn : l1.length ≤ n) (h : squelchlaw30_ScriptNodes.f k a0 a1 l1 b0 b1 b2 b3 b4 b5 p0 p1 p2 p3 p4 = some r) :
  Calls Tryz.prog 4 #[.agg #[.string a0, .int .i64 a1, .slice A l1.length n, .bool b0, .bool b1, .int .i64 b2, .int .i64 b3, .int .i64 b4, .int .i64 b5, .int .i64 p0, .int .i64 p1, .int .i64 p2, .int .i64 p3, .bool p4]] w fun e w' => e = .returned (.bool r) ∧ Below w.heap.size w w' := by
 subst hT_
 have HOk : Aside0 (nodesOk a0 a1 l1 b2 b3 b4 b5 p0 p1 p2 p3 = true) := by
  unfold squelchlaw30_ScriptNodes.f at h
  split at h
  ·exact ⟨by assumption⟩
  ·cases h
 clear h
 have HE := Aside0.mk hE_
 clear hE_
 have HB0 : Aside0 (Below w.heap.size w (w.alloc (.cells #[.string a0, .int .i64 a1, .slice A l1.length n, .bool b0, .bool b1, .int .i64 b2, .int .i64 b3, .int .i64 b4, .int .i64 b5, .int .i64 p0, .int .i64 p1, .int .i64 p2, .int .i64 p3, .bool p4] 44 (0, 0)))) := ⟨(Below.refl _ _).alloc (Nat.le_refl _) _⟩
 have HG0 := Aside0.mk (heap_alloc_new w (.cells #[.string a0, .int .i64 a1, .slice A l1.length n, .bool b0, .bool b1, .int .i64 b2, .int .i64 b3, .int .i64 b4, .int .i64 b5, .int .i64 p0, .int .i64 p1, .int .i64 p2, .int .i64 p3, .bool p4] 44 (0, 0)))
 have HC0 := Aside0.mk (Kd.C_alloc hr (.cells #[.string a0, .int .i64 a1, .slice A l1.length n, .bool b0, .bool b1, .int .i64 b2, .int .i64 b3, .int .i64 b4, .int .i64 b5, .int .i64 p0, .int .i64 p1, .int .i64 p2, .int .i64 p3, .bool p4] 44 (0, 0)))
 clear hr
 go_enter Tryz.func4, Tryz.ntmps4
 obtain ⟨w0, hw0⟩ : ∃ w0, w.alloc (.cells #[.string a0, .int .i64 a1, .slice A l1.length n, .bool b0, .bool b1, .int .i64 b2, .int .i64 b3, .int .i64 b4, .int .i64 b5, .int .i64 p0, .int .i64 p1, .int .i64 p2, .int .i64 p3, .bool p4] 44 (0, 0)) = w0 := ⟨_, rfl⟩
 rw [hw0] at HB0 HG0 HC0
 go_wp2_with (fail)
 (with_reducible refine (awake_calls _ (HE.out.below HB0.out)).mono ?_)
 rintro e w1 ⟨rfl, hb1⟩
 have HB1 := Aside0.mk (below_then HB0.out HB0.out.size hb1)
 have HG1 := Aside0.mk (blk_below HG0.out hb1)
 have HC1 := Aside0.mk (Kd.C_below HC0.out hb1)
 clear hb1 HB0 HG0 HC0 hw0
 obtain ⟨⟨k0, k1, k2, k3, k4, k5, k6⟩, k7, k8, k9, k10, k11, k12, k13⟩ := cells14 HG1.out
 by_cases hl : l1.length ≤ 30
 case neg =>
  have hgt : ((30 : Int) < (l1.length : Int)) = True := eq_true (by omega)
  have hgb : decide ((30 : Int) < (l1.length : Int)) = true := decide_eq_true (by omega)
  go_wp2_with (fail)
  go_ret
  exact ⟨rfl, HB1.out⟩
 have hle : ((30 : Int) < (l1.length : Int)) = False := eq_false (by omega)
 have hlb : decide ((30 : Int) < (l1.length : Int)) = false := decide_eq_false (by omega)
 by_cases hz : a0.size ≤ 100
 case neg =>
  have hgt : ((100 : Int) < (a0.size : Int)) = True := eq_true (by omega)
  have hgb : decide ((100 : Int) < (a0.size : Int)) = true := decide_eq_true (by omega)
  go_wp2_with (fail)
  go_ret
  exact ⟨rfl, HB1.out⟩
 have hze : ((100 : Int) < (a0.size : Int)) = False := eq_false (by omega)
 have hzb : decide ((100 : Int) < (a0.size : Int)) = false := decide_eq_false (by omega)
 have HC := Aside0.mk (nodes_ok b0 b1 p4 HOk.out hl)
 have HSN := Aside0.mk (snode_calls _ A n w1 (HE.out.below HB1.out) HC.out HC1.out hn)
 have HK : Aside0 ((Cfg.mk a0 a1 l1 b0 b1 b2 b3 b4 b5 p0 p1 p2 p3 p4) = ⟨a0, a1, l1, b0, b1, b2, b3, b4, b5, p0, p1, p2, p3, p4⟩) := ⟨rfl⟩
 simp only [cfgV, cfgC] at HSN
 go_wp2_with (fail)
 (with_reducible refine HSN.out.mono ?_)
 rintro e w2 ⟨rfl, hb2⟩
 have HB2 := Aside0.mk (below_then HB1.out HB1.out.size hb2)
 have HG2 := Aside0.mk (blk_below HG1.out hb2)
 have HC2 := Aside0.mk (Kd.C_below HC1.out hb2)
 clear hb2 HB1 HG1 HC1 HSN k0 k1 k2 k3 k4 k5 k6 k7 k8 k9 k10 k11 k12 k13 hle hlb hze hzb
 obtain ⟨⟨k0, k1, k2, k3, k4, k5, k6⟩, k7, k8, k9, k10, k11, k12, k13⟩ := cells14 HG2.out
 have HNW := Aside0.mk (new_calls _ A n w2 HC.out HC2.out hn)
 simp only [cfgV, cfgC] at HNW
 go_wp2_with (fail)
 (with_reducible refine HNW.out.mono ?_)
 rintro e w3 ⟨⟨p, hp, rfl⟩, hb3⟩
 have HB3 := Aside0.mk (below_then HB2.out HB2.out.size hb3)
 have HG3 := Aside0.mk (blk_below HG2.out hb3)
 have HC3 := Aside0.mk (Kd.C_below HC2.out hb3)
 clear hb3 HB2 HG2 HC2 HNW hp k0 k1 k2 k3 k4 k5 k6 k7 k8 k9 k10 k11 k12 k13
 by_cases h0 : newOf ⟨a0, a1, l1, b0, b1, b2, b3, b4, b5, p0, p1, p2, p3, p4⟩ = 0
 case neg =>
  have hb : (newOf ⟨a0, a1, l1, b0, b1, b2, b3, b4, b5, p0, p1, p2, p3, p4⟩ != 0) = true := bne_iff_ne.2 h0
  have hne : nodeS ⟨a0, a1, l1, b0, b1, b2, b3, b4, b5, p0, p1, p2, p3, p4⟩ = ⟨#[]⟩ := by unfold nodeS; rw [if_neg h0]
  have HX := Aside0.mk h0
  clear h0
  rw [hne]
  clear hne
  generalize newOf ⟨a0, a1, l1, b0, b1, b2, b3, b4, b5, p0, p1, p2, p3, p4⟩ = er at hb HX ⊢
  go_wp2_with (fail)
  go_ret
  exact ⟨rfl, HB3.out⟩
 obtain ⟨hl14, hl13⟩ := node_law _ HC.out h0
 have HL14 := Aside0.mk hl14
 have HL13 := Aside0.mk hl13
 clear hl14 hl13
 obtain ⟨hck, hcs⟩ := Pure.node_conf h0
 have hsz := Pure.node_size h0
 have HCF := Aside0.mk (config_calls (nodeS ⟨a0, a1, l1, b0, b1, b2, b3, b4, b5, p0, p1, p2, p3, p4⟩) w3 (HE.out.below HB3.out) hsz)
 have hcr : confR (nodeS ⟨a0, a1, l1, b0, b1, b2, b3, b4, b5, p0, p1, p2, p3, p4⟩) = ⟨a0, a1, l1, b0, b1, b2, b3, b4, b5, p0, p1, p2, p3, p4⟩ := by
  unfold confR
  rw [if_pos hck, hcs]
 have hce : confE (nodeS ⟨a0, a1, l1, b0, b1, b2, b3, b4, b5, p0, p1, p2, p3, p4⟩) = 0 := by
  unfold confE
  rw [if_pos hck]
 rw [hcr, hce] at HCF
 rw [h0]
 clear hck hcs hsz hcr hce h0 HC HOk
 generalize nodeS ⟨a0, a1, l1, b0, b1, b2, b3, b4, b5, p0, p1, p2, p3, p4⟩ = nt at HL13 HCF ⊢
 simp only [cfgV, cfgC] at HL14 HL13 HCF
 have hnt : (nt.toList == nt.toList) = true := beq_self_eq_true _
 obtain ⟨⟨k0, k1, k2, k3, k4, k5, k6⟩, k7, k8, k9, k10, k11, k12, k13⟩ := cells14 HG3.out
 go_wp2_with (fail)
 (with_reducible refine HCF.out.mono ?_)
 rintro e w4 ⟨A2, n2, rfl, hC4, hn4, hb4⟩
 have HB4 := Aside0.mk (below_alloc (below_then HB3.out HB3.out.size hb4) (.cells #[.string a0, .int .i64 a1, .slice A2 l1.length n2, .bool b0, .bool b1, .int .i64 b2, .int .i64 b3, .int .i64 b4, .int .i64 b5, .int .i64 p0, .int .i64 p1, .int .i64 p2, .int .i64 p3, .bool p4] 44 (0, 0)))
 have HG4 := Aside0.mk (heap_step_alloc (blk_below HG3.out hb4) (lt_of_some (blk_below HG3.out hb4)) (.cells #[.string a0, .int .i64 a1, .slice A2 l1.length n2, .bool b0, .bool b1, .int .i64 b2, .int .i64 b3, .int .i64 b4, .int .i64 b5, .int .i64 p0, .int .i64 p1, .int .i64 p2, .int .i64 p3, .bool p4] 44 (0, 0)))
 have HC4 := Aside0.mk (Kd.C_alloc (Kd.C_below HC3.out hb4) (.cells #[.string a0, .int .i64 a1, .slice A2 l1.length n2, .bool b0, .bool b1, .int .i64 b2, .int .i64 b3, .int .i64 b4, .int .i64 b5, .int .i64 p0, .int .i64 p1, .int .i64 p2, .int .i64 p3, .bool p4] 44 (0, 0)))
 have HX4 := Aside0.mk (heap_alloc_new w4 (.cells #[.string a0, .int .i64 a1, .slice A2 l1.length n2, .bool b0, .bool b1, .int .i64 b2, .int .i64 b3, .int .i64 b4, .int .i64 b5, .int .i64 p0, .int .i64 p1, .int .i64 p2, .int .i64 p3, .bool p4] 44 (0, 0)))
 have HD4 := Aside0.mk (Kd.C_alloc hC4 (.cells #[.string a0, .int .i64 a1, .slice A2 l1.length n2, .bool b0, .bool b1, .int .i64 b2, .int .i64 b3, .int .i64 b4, .int .i64 b5, .int .i64 p0, .int .i64 p1, .int .i64 p2, .int .i64 p3, .bool p4] 44 (0, 0)))
 obtain ⟨w5, hw5⟩ : ∃ w5, w4.alloc (.cells #[.string a0, .int .i64 a1, .slice A2 l1.length n2, .bool b0, .bool b1, .int .i64 b2, .int .i64 b3, .int .i64 b4, .int .i64 b5, .int .i64 p0, .int .i64 p1, .int .i64 p2, .int .i64 p3, .bool p4] 44 (0, 0)) = w5 := ⟨_, rfl⟩
 rw [hw5] at HB4 HG4 HC4 HX4 HD4
 clear hb4 hC4 HB3 HG3 HC3 HCF k0 k1 k2 k3 k4 k5 k6 k7 k8 k9 k10 k11 k12 k13
 obtain ⟨⟨k0, k1, k2, k3, k4, k5, k6⟩, k7, k8, k9, k10, k11, k12, k13⟩ := cells14 HG4.out
 go_wp2_with (fail)
 (with_reducible refine (HL14.out A n w5 HC4.out hn).mono ?_)
 rintro e w6 ⟨A3, n3, rfl, hC6, hn6, hb6⟩
 have HB6 := Aside0.mk (below_then HB4.out HB4.out.size hb6)
 have HG6 := Aside0.mk (blk_below HG4.out hb6)
 have HX6 := Aside0.mk (blk_below HX4.out hb6)
 have HD6 := Aside0.mk (Kd.C_below HD4.out hb6)
 clear HB4 HG4 HC4 HX4 HD4 hb6 hw5 k0 k1 k2 k3 k4 k5 k6 k7 k8 k9 k10 k11 k12 k13
 go_wp2_with (fail)
 (with_reducible refine (HL13.out A3 n3 w6 hC6 hn6).mono ?_)
 rintro e w7 ⟨rfl, hb7⟩
 have HB7 := Aside0.mk (below_then HB6.out HB6.out.size hb7)
 have HG7 := Aside0.mk (blk_below HG6.out hb7)
 have HX7 := Aside0.mk (blk_below HX6.out hb7)
 have HD7 := Aside0.mk (Kd.C_below HD6.out hb7)
 clear HB6 HG6 HX6 HD6 hb7 hC6
 obtain ⟨⟨k0, k1, k2, k3, k4, k5, k6⟩, k7, k8, k9, k10, k11, k12, k13⟩ := cells14 HX7.out
 go_wp2_with (fail)
 (with_reducible refine (HL14.out A2 n2 w7 HD7.out hn4).mono ?_)
 rintro e w8 ⟨A4, n4, rfl, hC8, hn8, hb8⟩
 have HB8 := Aside0.mk (below_then HB7.out HB7.out.size hb8)
 have HG8 := Aside0.mk (blk_below HG7.out hb8)
 have HX8 := Aside0.mk (blk_below HX7.out hb8)
 clear HB7 HG7 HX7 HD7 hb8 k0 k1 k2 k3 k4 k5 k6 k7 k8 k9 k10 k11 k12 k13
 go_wp2_with (fail)
 (with_reducible refine (HL13.out A4 n4 w8 hC8 hn8).mono ?_)
 rintro e w9 ⟨rfl, hb9⟩
 have HB9 := Aside0.mk (below_then HB8.out HB8.out.size hb9)
 have HG9 := Aside0.mk (blk_below HG8.out hb9)
 have HX9 := Aside0.mk (blk_below HX8.out hb9)
 clear HB8 HG8 HX8 hb9 hC8
 obtain ⟨⟨k0, k1, k2, k3, k4, k5, k6⟩, k7, k8, k9, k10, k11, k12, k13⟩ := cells14 HX9.out
 obtain ⟨⟨j0, j1, j2, j3, j4, j5, j6⟩, j7, j8, j9, j10, j11, j12, j13⟩ := cells14 HG9.out
 go_wp2_with (first | rw [eqB37] | rw [eqB40] | rw [eqB42])
 go_ret
 exact ⟨rfl, HB9.out⟩
end Go.Proofs.YtndgaeldndgioaaGreatDoor.QAll
end

section
/- The plain law of ScriptNodes. -/
namespace Go.Proofs.YtndgaeldndgioaaGreatDoor.Pure
open Go.Proofs.YtndgaeldndgioaaGreatDoor.QAll
theorem ScriptNodes (a0 : ByteArray) (a1 : Int) (l1 : List S37) (b0 b1 : Bool) (b2 b3 b4 b5 p0 p1 p2 p3 : Int) (p4 : Bool) (z0 : a0.size ≤ 140737488351232) (w1 : (Lit.int .i64 a1).wf = true)
    (h : ∀ d ∈ l1, d.f0.size ≤ maxLen ∧ (Lit.int .i64 d.f1).wf = true) (w2 : (Lit.int .i64 b2).wf = true) (w3 : (Lit.int .i64 b3).wf = true) (w4 : (Lit.int .i64 b4).wf = true) (w5 : (Lit.int .i64 b5).wf = true)
    (v0 : (Lit.int .i64 p0).wf = true) (v1 : (Lit.int .i64 p1).wf = true) (v2 : (Lit.int .i64 p2).wf = true) (v3 : (Lit.int .i64 p3).wf = true) :
    ∃ k, squelchlaw30_ScriptNodes.f k a0 a1 l1 b0 b1 b2 b3 b4 b5 p0 p1 p2 p3 p4 = some true := by
  refine ⟨0, ?_⟩
  unfold squelchlaw30_ScriptNodes.f
  rw [if_pos]
  unfold nodesOk i64B
  simp only [Bool.and_eq_true, decide_eq_true_eq, List.all_eq_true]
  have hm : maxLen = 9223372036854775807 := rfl
  exact ⟨by omega, w1, fun d hd => ⟨by have := (h d hd).1; omega, (h d hd).2⟩, w2, w3, w4, w5, v0, v1, v2, v3⟩
end Go.Proofs.YtndgaeldndgioaaGreatDoor.Pure
end

section
/- The statement that the law squelchlaw30.ScriptNodes is true of every input, its arguments left as they were: the row, out of its walk and its plain law. Written by a program of this session (wip/pp/row.py). -/
namespace Go.Proofs.YtndgaeldndgioaaGreatDoor.scriptNodesRow
open Go.ChangeShapes Go.WideShapes Go.ChangeAt Go.RowKit
open Go.ChangeMaps (open_string shut_string)
set_option linter.unusedVariables false
set_option linter.unusedSimpArgs false
theorem own : ownKnob Tryz.prog.godebug = none := by kernel_rfl
theorem laidOut : laidOutB Tryz.prog = true := by kernel_rfl
theorem cells3 : Tryz.prog.cellsOf 3 = 1 := by kernel_rfl
theorem cells4 : Tryz.prog.cellsOf 4 = 1 := by kernel_rfl
theorem cells9 : Tryz.prog.cellsOf 9 = 1 := by kernel_rfl
theorem cells37 : Tryz.prog.cellsOf 37 = 2 := by kernel_rfl
theorem cells38 : Tryz.prog.cellsOf 38 = 1 := by kernel_rfl
theorem cells40 : Tryz.prog.cellsOf 40 = 6 := by kernel_rfl
theorem cells42 : Tryz.prog.cellsOf 42 = 5 := by kernel_rfl
theorem cells44 : Tryz.prog.cellsOf 44 = 14 := by kernel_rfl
set_option maxRecDepth 100000 in
theorem open37 {H : Type} {enc : TypeId × Value → H} {w : World} {fuel : Nat} {cs : List Value} {x : DataW H × List MemPlace} (h : DataW.trod enc Tryz.prog w 0 (fun _ => true) true fuel 37 cs = some x) :
    ∃ (a_0 : ByteArray) (a_1 : Int), cs = [.string a_0, .int .i64 a_1] ∧ x.1 = (.agg [(.lit (.string a_0.data.toList)), (.lit (.int .i64 a_1))]) ∧ a_0.size ≤ maxLen ∧ (Lit.int .i64 a_1).wf = true := by
  obtain ⟨xs, n, -, rfl, hc, hl, hg⟩ := DataW.trod_struct Tryz.underlying37 h
  rw [cells37] at hc
  obtain ⟨c0, c1, rfl⟩ : ∃ c0 c1, cs = [c0, c1] := by
    match cs, hc with
    | [c0, c1], _ => exact ⟨_, _, rfl⟩
  obtain ⟨y0, y1, rfl⟩ : ∃ y0 y1, xs = [y0, y1] := by
    match xs, hl with
    | [y0, y1], _ => exact ⟨_, _, rfl⟩
  clear h hc hl
  have g0 : DataW.trod enc Tryz.prog w 0 (fun _ => true) true n 9 [c0] = some y0 := by
    have z := hg 0 _ rfl
    simp only [cells9, List.drop_zero, List.drop_succ_cons, List.take_succ_cons, List.take_zero, List.getElem?_cons_zero, List.getElem?_cons_succ] at z
    exact z
  have g1 : DataW.trod enc Tryz.prog w 0 (fun _ => true) true n 3 [c1] = some y1 := by
    have z := hg 1 _ rfl
    simp only [cells3, List.drop_zero, List.drop_succ_cons, List.take_succ_cons, List.take_zero, List.getElem?_cons_zero, List.getElem?_cons_succ] at z
    exact z
  clear hg
  obtain ⟨a_0, e0, rfl, wa_0⟩ := DataW.trod_string Tryz.underlying9 g0
  simp only [List.cons.injEq, and_true] at e0
  subst e0
  obtain ⟨a_1, e1, rfl, wa_1⟩ := DataW.trod_int Tryz.underlying3 g1
  simp only [List.cons.injEq, and_true] at e1
  subst e1
  exact ⟨a_0, a_1, rfl, by simp only [List.map_cons, List.map_nil], wa_0, wa_1⟩
set_option maxRecDepth 100000 in
theorem open40 {H : Type} {enc : TypeId × Value → H} {w : World} {fuel : Nat} {cs : List Value} {x : DataW H × List MemPlace} (h : DataW.trod enc Tryz.prog w 0 (fun _ => true) true fuel 40 cs = some x) :
    ∃ (a_0 : Bool) (a_1 : Bool) (a_2 : Int) (a_3 : Int) (a_4 : Int) (a_5 : Int), cs = [.bool a_0, .bool a_1, .int .i64 a_2, .int .i64 a_3, .int .i64 a_4, .int .i64 a_5] ∧ x.1 = (.agg [(.lit (.bool a_0)), (.lit (.bool a_1)), (.lit (.int .i64 a_2)), (.lit (.int .i64 a_3)), (.lit (.int .i64 a_4)), (.lit (.int .i64 a_5))]) ∧ True ∧ True ∧ (Lit.int .i64 a_2).wf = true ∧ (Lit.int .i64 a_3).wf = true ∧ (Lit.int .i64 a_4).wf = true ∧ (Lit.int .i64 a_5).wf = true := by
  obtain ⟨xs, n, -, rfl, hc, hl, hg⟩ := DataW.trod_struct Tryz.underlying40 h
  rw [cells40] at hc
  obtain ⟨c0, c1, c2, c3, c4, c5, rfl⟩ : ∃ c0 c1 c2 c3 c4 c5, cs = [c0, c1, c2, c3, c4, c5] := by
    match cs, hc with
    | [c0, c1, c2, c3, c4, c5], _ => exact ⟨_, _, _, _, _, _, rfl⟩
  obtain ⟨y0, y1, y2, y3, y4, y5, rfl⟩ : ∃ y0 y1 y2 y3 y4 y5, xs = [y0, y1, y2, y3, y4, y5] := by
    match xs, hl with
    | [y0, y1, y2, y3, y4, y5], _ => exact ⟨_, _, _, _, _, _, rfl⟩
  clear h hc hl
  have g0 : DataW.trod enc Tryz.prog w 0 (fun _ => true) true n 4 [c0] = some y0 := by
    have z := hg 0 _ rfl
    simp only [cells4, List.drop_zero, List.drop_succ_cons, List.take_succ_cons, List.take_zero, List.getElem?_cons_zero, List.getElem?_cons_succ] at z
    exact z
  have g1 : DataW.trod enc Tryz.prog w 0 (fun _ => true) true n 4 [c1] = some y1 := by
    have z := hg 1 _ rfl
    simp only [cells4, List.drop_zero, List.drop_succ_cons, List.take_succ_cons, List.take_zero, List.getElem?_cons_zero, List.getElem?_cons_succ] at z
    exact z
  have g2 : DataW.trod enc Tryz.prog w 0 (fun _ => true) true n 3 [c2] = some y2 := by
    have z := hg 2 _ rfl
    simp only [cells3, List.drop_zero, List.drop_succ_cons, List.take_succ_cons, List.take_zero, List.getElem?_cons_zero, List.getElem?_cons_succ] at z
    exact z
  have g3 : DataW.trod enc Tryz.prog w 0 (fun _ => true) true n 3 [c3] = some y3 := by
    have z := hg 3 _ rfl
    simp only [cells3, List.drop_zero, List.drop_succ_cons, List.take_succ_cons, List.take_zero, List.getElem?_cons_zero, List.getElem?_cons_succ] at z
    exact z
  have g4 : DataW.trod enc Tryz.prog w 0 (fun _ => true) true n 3 [c4] = some y4 := by
    have z := hg 4 _ rfl
    simp only [cells3, List.drop_zero, List.drop_succ_cons, List.take_succ_cons, List.take_zero, List.getElem?_cons_zero, List.getElem?_cons_succ] at z
    exact z
  have g5 : DataW.trod enc Tryz.prog w 0 (fun _ => true) true n 3 [c5] = some y5 := by
    have z := hg 5 _ rfl
    simp only [cells3, List.drop_zero, List.drop_succ_cons, List.take_succ_cons, List.take_zero, List.getElem?_cons_zero, List.getElem?_cons_succ] at z
    exact z
  clear hg
  obtain ⟨a_0, e0, rfl⟩ := DataW.trod_bool Tryz.underlying4 g0
  simp only [List.cons.injEq, and_true] at e0
  subst e0
  obtain ⟨a_1, e1, rfl⟩ := DataW.trod_bool Tryz.underlying4 g1
  simp only [List.cons.injEq, and_true] at e1
  subst e1
  obtain ⟨a_2, e2, rfl, wa_2⟩ := DataW.trod_int Tryz.underlying3 g2
  simp only [List.cons.injEq, and_true] at e2
  subst e2
  obtain ⟨a_3, e3, rfl, wa_3⟩ := DataW.trod_int Tryz.underlying3 g3
  simp only [List.cons.injEq, and_true] at e3
  subst e3
  obtain ⟨a_4, e4, rfl, wa_4⟩ := DataW.trod_int Tryz.underlying3 g4
  simp only [List.cons.injEq, and_true] at e4
  subst e4
  obtain ⟨a_5, e5, rfl, wa_5⟩ := DataW.trod_int Tryz.underlying3 g5
  simp only [List.cons.injEq, and_true] at e5
  subst e5
  exact ⟨a_0, a_1, a_2, a_3, a_4, a_5, rfl, by simp only [List.map_cons, List.map_nil], trivial, trivial, wa_2, wa_3, wa_4, wa_5⟩
set_option maxRecDepth 100000 in
theorem open42 {H : Type} {enc : TypeId × Value → H} {w : World} {fuel : Nat} {cs : List Value} {x : DataW H × List MemPlace} (h : DataW.trod enc Tryz.prog w 0 (fun _ => true) true fuel 42 cs = some x) :
    ∃ (a_0 : Int) (a_1 : Int) (a_2 : Int) (a_3 : Int) (a_4 : Bool), cs = [.int .i64 a_0, .int .i64 a_1, .int .i64 a_2, .int .i64 a_3, .bool a_4] ∧ x.1 = (.agg [(.lit (.int .i64 a_0)), (.lit (.int .i64 a_1)), (.lit (.int .i64 a_2)), (.lit (.int .i64 a_3)), (.lit (.bool a_4))]) ∧ (Lit.int .i64 a_0).wf = true ∧ (Lit.int .i64 a_1).wf = true ∧ (Lit.int .i64 a_2).wf = true ∧ (Lit.int .i64 a_3).wf = true ∧ True := by
  obtain ⟨xs, n, -, rfl, hc, hl, hg⟩ := DataW.trod_struct Tryz.underlying42 h
  rw [cells42] at hc
  obtain ⟨c0, c1, c2, c3, c4, rfl⟩ : ∃ c0 c1 c2 c3 c4, cs = [c0, c1, c2, c3, c4] := by
    match cs, hc with
    | [c0, c1, c2, c3, c4], _ => exact ⟨_, _, _, _, _, rfl⟩
  obtain ⟨y0, y1, y2, y3, y4, rfl⟩ : ∃ y0 y1 y2 y3 y4, xs = [y0, y1, y2, y3, y4] := by
    match xs, hl with
    | [y0, y1, y2, y3, y4], _ => exact ⟨_, _, _, _, _, rfl⟩
  clear h hc hl
  have g0 : DataW.trod enc Tryz.prog w 0 (fun _ => true) true n 3 [c0] = some y0 := by
    have z := hg 0 _ rfl
    simp only [cells3, List.drop_zero, List.drop_succ_cons, List.take_succ_cons, List.take_zero, List.getElem?_cons_zero, List.getElem?_cons_succ] at z
    exact z
  have g1 : DataW.trod enc Tryz.prog w 0 (fun _ => true) true n 3 [c1] = some y1 := by
    have z := hg 1 _ rfl
    simp only [cells3, List.drop_zero, List.drop_succ_cons, List.take_succ_cons, List.take_zero, List.getElem?_cons_zero, List.getElem?_cons_succ] at z
    exact z
  have g2 : DataW.trod enc Tryz.prog w 0 (fun _ => true) true n 3 [c2] = some y2 := by
    have z := hg 2 _ rfl
    simp only [cells3, List.drop_zero, List.drop_succ_cons, List.take_succ_cons, List.take_zero, List.getElem?_cons_zero, List.getElem?_cons_succ] at z
    exact z
  have g3 : DataW.trod enc Tryz.prog w 0 (fun _ => true) true n 3 [c3] = some y3 := by
    have z := hg 3 _ rfl
    simp only [cells3, List.drop_zero, List.drop_succ_cons, List.take_succ_cons, List.take_zero, List.getElem?_cons_zero, List.getElem?_cons_succ] at z
    exact z
  have g4 : DataW.trod enc Tryz.prog w 0 (fun _ => true) true n 4 [c4] = some y4 := by
    have z := hg 4 _ rfl
    simp only [cells4, List.drop_zero, List.drop_succ_cons, List.take_succ_cons, List.take_zero, List.getElem?_cons_zero, List.getElem?_cons_succ] at z
    exact z
  clear hg
  obtain ⟨a_0, e0, rfl, wa_0⟩ := DataW.trod_int Tryz.underlying3 g0
  simp only [List.cons.injEq, and_true] at e0
  subst e0
  obtain ⟨a_1, e1, rfl, wa_1⟩ := DataW.trod_int Tryz.underlying3 g1
  simp only [List.cons.injEq, and_true] at e1
  subst e1
  obtain ⟨a_2, e2, rfl, wa_2⟩ := DataW.trod_int Tryz.underlying3 g2
  simp only [List.cons.injEq, and_true] at e2
  subst e2
  obtain ⟨a_3, e3, rfl, wa_3⟩ := DataW.trod_int Tryz.underlying3 g3
  simp only [List.cons.injEq, and_true] at e3
  subst e3
  obtain ⟨a_4, e4, rfl⟩ := DataW.trod_bool Tryz.underlying4 g4
  simp only [List.cons.injEq, and_true] at e4
  subst e4
  exact ⟨a_0, a_1, a_2, a_3, a_4, rfl, by simp only [List.map_cons, List.map_nil], wa_0, wa_1, wa_2, wa_3, trivial⟩
set_option maxRecDepth 100000 in
theorem open44 {H : Type} {enc : TypeId × Value → H} {w : World} {fuel : Nat} {cs : List Value} {x : DataW H × List MemPlace} (h : DataW.trod enc Tryz.prog w 0 (fun _ => true) true fuel 44 cs = some x) :
    ∃ (a_0_0 : ByteArray) (a_0_1 : Int) (Aa_1 : Option Addr) (ca_1 : Nat) (a_1 : List QAll.S37) (Da_1 : DataW H) (a_2_0 : Bool) (a_2_1 : Bool) (a_2_2 : Int) (a_2_3 : Int) (a_2_4 : Int) (a_2_5 : Int) (a_3_0 : Int) (a_3_1 : Int) (a_3_2 : Int) (a_3_3 : Int) (a_3_4 : Bool), cs = [.string a_0_0, .int .i64 a_0_1, .slice Aa_1 a_1.length ca_1, .bool a_2_0, .bool a_2_1, .int .i64 a_2_2, .int .i64 a_2_3, .int .i64 a_2_4, .int .i64 a_2_5, .int .i64 a_3_0, .int .i64 a_3_1, .int .i64 a_3_2, .int .i64 a_3_3, .bool a_3_4] ∧ x.1 = (.agg [(.agg [(.lit (.string a_0_0.data.toList)), (.lit (.int .i64 a_0_1))]), Da_1, (.agg [(.lit (.bool a_2_0)), (.lit (.bool a_2_1)), (.lit (.int .i64 a_2_2)), (.lit (.int .i64 a_2_3)), (.lit (.int .i64 a_2_4)), (.lit (.int .i64 a_2_5))]), (.agg [(.lit (.int .i64 a_3_0)), (.lit (.int .i64 a_3_1)), (.lit (.int .i64 a_3_2)), (.lit (.int .i64 a_3_3)), (.lit (.bool a_3_4))])]) ∧ a_0_0.size ≤ maxLen ∧ (Lit.int .i64 a_0_1).wf = true ∧ (QAll.k37.C w Aa_1 a_1.length a_1 ∧ a_1.length ≤ ca_1 ∧ ∀ d ∈ a_1, d.f0.size ≤ maxLen ∧ (Lit.int .i64 d.f1).wf = true) ∧ True ∧ True ∧ (Lit.int .i64 a_2_2).wf = true ∧ (Lit.int .i64 a_2_3).wf = true ∧ (Lit.int .i64 a_2_4).wf = true ∧ (Lit.int .i64 a_2_5).wf = true ∧ (Lit.int .i64 a_3_0).wf = true ∧ (Lit.int .i64 a_3_1).wf = true ∧ (Lit.int .i64 a_3_2).wf = true ∧ (Lit.int .i64 a_3_3).wf = true ∧ True := by
  obtain ⟨xs, n, -, rfl, hc, hl, hg⟩ := DataW.trod_struct Tryz.underlying44 h
  rw [cells44] at hc
  obtain ⟨c0, c1, c2, c3, c4, c5, c6, c7, c8, c9, c10, c11, c12, c13, rfl⟩ : ∃ c0 c1 c2 c3 c4 c5 c6 c7 c8 c9 c10 c11 c12 c13, cs = [c0, c1, c2, c3, c4, c5, c6, c7, c8, c9, c10, c11, c12, c13] := by
    match cs, hc with
    | [c0, c1, c2, c3, c4, c5, c6, c7, c8, c9, c10, c11, c12, c13], _ => exact ⟨_, _, _, _, _, _, _, _, _, _, _, _, _, _, rfl⟩
  obtain ⟨y0, y1, y2, y3, rfl⟩ : ∃ y0 y1 y2 y3, xs = [y0, y1, y2, y3] := by
    match xs, hl with
    | [y0, y1, y2, y3], _ => exact ⟨_, _, _, _, rfl⟩
  clear h hc hl
  have g0 : DataW.trod enc Tryz.prog w 0 (fun _ => true) true n 37 [c0, c1] = some y0 := by
    have z := hg 0 _ rfl
    simp only [cells37, List.drop_zero, List.drop_succ_cons, List.take_succ_cons, List.take_zero, List.getElem?_cons_zero, List.getElem?_cons_succ] at z
    exact z
  have g1 : DataW.trod enc Tryz.prog w 0 (fun _ => true) true n 38 [c2] = some y1 := by
    have z := hg 1 _ rfl
    simp only [cells38, List.drop_zero, List.drop_succ_cons, List.take_succ_cons, List.take_zero, List.getElem?_cons_zero, List.getElem?_cons_succ] at z
    exact z
  have g2 : DataW.trod enc Tryz.prog w 0 (fun _ => true) true n 40 [c3, c4, c5, c6, c7, c8] = some y2 := by
    have z := hg 2 _ rfl
    simp only [cells40, List.drop_zero, List.drop_succ_cons, List.take_succ_cons, List.take_zero, List.getElem?_cons_zero, List.getElem?_cons_succ] at z
    exact z
  have g3 : DataW.trod enc Tryz.prog w 0 (fun _ => true) true n 42 [c9, c10, c11, c12, c13] = some y3 := by
    have z := hg 3 _ rfl
    simp only [cells42, List.drop_zero, List.drop_succ_cons, List.take_succ_cons, List.take_zero, List.getElem?_cons_zero, List.getElem?_cons_succ] at z
    exact z
  clear hg
  obtain ⟨a_0_0, a_0_1, e0, d0, wa_0_0, wa_0_1⟩ := open37 g0
  simp only [List.cons.injEq, and_true] at e0
  obtain ⟨rfl, rfl⟩ := e0
  obtain ⟨Aa_1, ca_1, a_1, e1, wa_1⟩ := QAll.rows_of_trod QAll.k37 Tryz.underlying38 cells37 (fun d => d.f0.size ≤ maxLen ∧ (Lit.int .i64 d.f1).wf = true) (fun n cs' z hz => by
    obtain ⟨b_0, b_1, rfl, -, wb_0, wb_1⟩ := open37 hz
    exact ⟨(⟨b_0, b_1⟩ : QAll.S37), QAll.k37_mk w _, rfl, wb_0, wb_1⟩) g1
  simp only [List.cons.injEq, and_true] at e1
  subst e1
  obtain ⟨a_2_0, a_2_1, a_2_2, a_2_3, a_2_4, a_2_5, e2, d2, wa_2_0, wa_2_1, wa_2_2, wa_2_3, wa_2_4, wa_2_5⟩ := open40 g2
  simp only [List.cons.injEq, and_true] at e2
  obtain ⟨rfl, rfl, rfl, rfl, rfl, rfl⟩ := e2
  obtain ⟨a_3_0, a_3_1, a_3_2, a_3_3, a_3_4, e3, d3, wa_3_0, wa_3_1, wa_3_2, wa_3_3, wa_3_4⟩ := open42 g3
  simp only [List.cons.injEq, and_true] at e3
  obtain ⟨rfl, rfl, rfl, rfl, rfl⟩ := e3
  exact ⟨a_0_0, a_0_1, Aa_1, ca_1, a_1, y1.1, a_2_0, a_2_1, a_2_2, a_2_3, a_2_4, a_2_5, a_3_0, a_3_1, a_3_2, a_3_3, a_3_4, rfl, by simp only [List.map_cons, List.map_nil, d0, d2, d3], wa_0_0, wa_0_1, wa_1, trivial, trivial, wa_2_2, wa_2_3, wa_2_4, wa_2_5, wa_3_0, wa_3_1, wa_3_2, wa_3_3, trivial⟩
theorem met (os : Os) (args : Array Value) : laidMetH Tryz.prog Rows.scriptNodesRow.laid ((World.laidAll Tryz.prog os Rows.scriptNodesRow.laid).forCall (fun _ _ => 0) ⟨#[], args, []⟩).memory :=
  (show laidMet Tryz.prog Rows.scriptNodesRow.laid _ from laidMet_laidAll _ (by kernel_rfl) (by kernel_rfl))
set_option maxRecDepth 100000 in
theorem lifted (os : Os) (started : os.Started) (H : Type) (enc : TypeId × Value → H) :
    ReturnsInHanded {} Tryz.checked os 4 .any (fun w args => (Rows.scriptNodesSpec.pre enc Tryz.prog Tryz.f4 Rows.scriptNodesRow.domain false w args ∧ laidMetH Tryz.prog Rows.scriptNodesRow.laid w) ∧ sizedMet enc Tryz.prog Tryz.f4 (OpenSpec.ofChange Rows.scriptNodesSpec) false w args) (Rows.scriptNodesSpec.post enc Tryz.prog Tryz.f4 false true false false) := by
  refine QAll.returns_laid_shaped (C := Tryz.checked) own started (by kernel_rfl) Tryz.func4
    (ChangeSpec.witness_at (enc := enc) (C := Tryz.checked) (os := os) (X := fun w _ => laidMetH Tryz.prog Rows.scriptNodesRow.laid w) false (World.laidAll Tryz.prog os Rows.scriptNodesRow.laid) #[.agg #[.string ByteArray.empty, .int .i64 0, .slice none 0 0, .bool false, .bool false, .int .i64 0, .int .i64 0, .int .i64 0, .int .i64 0, .int .i64 0, .int .i64 0, .int .i64 0, .int .i64 0, .bool false]] 8 (World.laidAll_os _ _ _) (by kernel_rfl) (by kernel_rfl) (by kernel_rfl) (by kernel_rfl) (by kernel_rfl) (met os _)) ?_
  intro W base args ds gs before hval0 hW hcnd hsz0 hL hsh
  have hE : QAll.EnvW W := QAll.env_of_laid hsh (show laidMet Tryz.prog Rows.scriptNodesRow.laid W from hL) (by simp [Rows.scriptNodesRow]) (by simp [Rows.scriptNodesRow]) (by simp [Rows.scriptNodesRow])
  have hsz : (DataW.weightsEach Tryz.prog (Tryz.f4.params.toList ++ Rows.scriptNodesSpec.plain.varTypes Tryz.prog) (ds ++ gs)).all (· ≤ reachBytes) = true := hsz0
  have hval : ∀ (j : Nat) t v, Tryz.f4.params[j]? = some t → args[j]? = some v → Value.okWide Tryz.prog W .any base t v := hval0
  have hW' := hW
  obtain ⟨p, q, hA0, hV, rfl, hfz, hnd⟩ := hW
  have hA : DataW.TrodAll enc Tryz.prog W 0 (fun _ => true) true Tryz.f4.params.toList args.toList ds p := hA0
  rw [Tryz.params4] at hA hval hsz
  obtain ⟨v0, vs0, d0, ds0, p0, q0, hargs, rfl, rfl, h0, r0⟩ := trodAll_cons hA
  obtain ⟨rfl, rfl, rfl⟩ := trodAll_nil r0
  obtain rfl : args = #[v0] := by cases args; simp_all
  obtain ⟨rfl, rfl⟩ := trodVars_none hV
  have k0 := h0
  have lt0 : ∀ x ∈ p0, x.block < W.heap.size := by obtain ⟨m, hm⟩ := k0; exact DataW.trod_lt m _ _ _ hm
  obtain ⟨cs0, rfl, -⟩ := okWide_struct Tryz.underlying44 (hval 0 44 v0 rfl rfl)
  obtain ⟨fu0, hf0⟩ := h0
  obtain ⟨a0_0_0, a0_0_1, Aa0_1, ca0_1, a0_1, Da0_1, a0_2_0, a0_2_1, a0_2_2, a0_2_3, a0_2_4, a0_2_5, a0_3_0, a0_3_1, a0_3_2, a0_3_3, a0_3_4, e0, hd0, wa0_0_0, wa0_0_1, wa0_1, wa0_2_0, wa0_2_1, wa0_2_2, wa0_2_3, wa0_2_4, wa0_2_5, wa0_3_0, wa0_3_1, wa0_3_2, wa0_3_3, wa0_3_4⟩ := open44 hf0
  replace e0 : cs0 = #[.string a0_0_0, .int .i64 a0_0_1, .slice Aa0_1 a0_1.length ca0_1, .bool a0_2_0, .bool a0_2_1, .int .i64 a0_2_2, .int .i64 a0_2_3, .int .i64 a0_2_4, .int .i64 a0_2_5, .int .i64 a0_3_0, .int .i64 a0_3_1, .int .i64 a0_3_2, .int .i64 a0_3_3, .bool a0_3_4] := by apply Array.ext'; simpa [Value.cells] using e0
  subst e0
  replace hd0 : d0 = (.agg [(.agg [(.lit (.string a0_0_0.data.toList)), (.lit (.int .i64 a0_0_1))]), Da0_1, (.agg [(.lit (.bool a0_2_0)), (.lit (.bool a0_2_1)), (.lit (.int .i64 a0_2_2)), (.lit (.int .i64 a0_2_3)), (.lit (.int .i64 a0_2_4)), (.lit (.int .i64 a0_2_5))]), (.agg [(.lit (.int .i64 a0_3_0)), (.lit (.int .i64 a0_3_1)), (.lit (.int .i64 a0_3_2)), (.lit (.int .i64 a0_3_3)), (.lit (.bool a0_3_4))])]) := hd0
  subst hd0
  have hz : a0_0_0.size ≤ 140737488351232 := by
    have z := hsz
    skip
    simp [DataW.weightsEach, DataW.weights, reachBytes, Tryz.underlying3, Tryz.underlying4, Tryz.underlying9, Tryz.underlying37, Tryz.underlying38, Tryz.underlying40, Tryz.underlying42, Tryz.underlying44] at z
    first | omega | exact of_decide_eq_true z | exact of_decide_eq_true z.1 | exact of_decide_eq_true z.2 | exact of_decide_eq_true z.2.1
  have za0_0_0 := hz
  clear hA0 hval0 hsz0 hsz
  obtain ⟨k, hp⟩ := Pure.ScriptNodes a0_0_0 a0_0_1 a0_1 a0_2_0 a0_2_1 a0_2_2 a0_2_3 a0_2_4 a0_2_5 a0_3_0 a0_3_1 a0_3_2 a0_3_3 a0_3_4 za0_0_0 wa0_0_1 wa0_1.2.2 wa0_2_2 wa0_2_3 wa0_2_4 wa0_2_5 wa0_3_0 wa0_3_1 wa0_3_2 wa0_3_3
  refine (QAll.squelchlaw30_ScriptNodes.calls k a0_0_0 a0_0_1 Aa0_1 ca0_1 a0_1 a0_2_0 a0_2_1 a0_2_2 a0_2_3 a0_2_4 a0_2_5 a0_3_0 a0_3_1 a0_3_2 a0_3_3 a0_3_4 true W hE rfl wa0_1.1 wa0_1.2.1 hp).mono fun e W' ⟨he, bel⟩ => ?_
  subst he
  exact ⟨_, rfl, _, _, _, [], _, [], hW', trodAll_mk1 (shut_bool Tryz.underlying4 _), (trodAll_cons_mk (Below.trod laidOut (by kernel_rfl) (of_decide_eq_true (by kernel_rfl)) k0 bel lt0) trodAll_mk0), rfl, bel.frame _, fun h => by cases h⟩
theorem over : Rows.scriptNodesRow.holds Tryz.pinned (OpenSpec.ofChange Rows.scriptNodesSpec) :=
  OpenClaim.holds_of_wide 4 Tryz.f4 rfl rfl rfl rfl rfl rfl rfl ⟨rfl, rfl, rfl, rfl, rfl⟩ rfl rfl rfl rfl rfl (by kernel_rfl) Tryz.func4 (by kernel_rfl)
    (of_decide_eq_true (by kernel_rfl)) (by unfold Func.isWrapper; first | (rw [if_pos (by decide +kernel)]; kernel_rfl) | (rw [if_neg (by decide +kernel)]; exact ⟨rfl, rfl⟩))
    (fun os started H enc _ => lifted os started H enc)
theorem card : Rows.ScriptNodesCardSaid :=
  Claim7.holds_tied_plain_at .later [] [.data, .data, .data, .data, .sentinel, .sentinel, .pinned] true (true, "da5756e2d4c4bd1ba8e8f312282b50e91ff1323f256f7f7588ae48a88549457a") true
    over (fun _ h => by cases h) (by kernel_rfl) (fun _ h => by cases h) scriptNodes_row_tie rfl ⟨rfl, rfl⟩ (by kernel_rfl) rfl
    (fun f fn hf hfn => by
      obtain rfl : f = 4 := Option.some.inj ((show Tryz.prog.funcNamed "squelch/squelchlaw30.ScriptNodes" = some 4 by kernel_rfl).symm.trans hf) |>.symm
      obtain rfl : fn = Tryz.f4 := (Option.some.inj (Tryz.func4.symm.trans hfn)).symm
      exact ⟨by kernel_rfl, fun j t ht => by
        rw [Tryz.params4] at ht
        have hm := Array.mem_of_getElem? ht
        simp at hm
        rcases hm with rfl
        · exact (show Tryz.prog.wantsStandIn 44 = false by kernel_rfl)
      ⟩)
    (by kernel_rfl)
end Go.Proofs.YtndgaeldndgioaaGreatDoor.scriptNodesRow
namespace Go.Proofs.YtndgaeldndgioaaGreatDoor
theorem scriptNodes_holds : Rows.ScriptNodesCardSaid := scriptNodesRow.card
#print axioms scriptNodes_holds
end Go.Proofs.YtndgaeldndgioaaGreatDoor
end
