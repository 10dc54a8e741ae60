/- Words, walks and plain laws that the row of the law ScriptParses rests on. -/
import Derived.Test.YtndgaeldndgioaaGreatDoorMScriptParses0
import Derived.Test.YtndgaeldndgioaaGreatDoorMScriptParses1
import Derived.Lib.AtoiAllCases
import Derived.KernelRfl
import Derived.RegionTactic
section
/- Numbers from -9999 to 9999 as words: written and read by the program and by the reference. -/
set_option linter.unusedVariables false
set_option linter.unusedSimpArgs false
set_option maxHeartbeats 1000000
namespace Go.Proofs.YtndgaeldndgioaaGreatDoor.Pure
open Go.RowKit Go.Proofs.YtndgaeldndgioaaGreatDoor.QAll Go.Proofs.YtndgaeldndgioaaGreatDoorW.PrintWords Go.Proofs.YtndgaeldndgioaaGreatDoorW.PrintLast
def dv (v : Nat) (c : UInt8) : Nat := v * 10 + (c.toNat - 48)
theorem dec_rec (u : Nat) : Lib.decDigits u = if u < 10 then [UInt8.ofNat (48 + u)] else Lib.decDigits (u / 10) ++ [UInt8.ofNat (48 + u % 10)] := by
  rw [Lib.decDigits]
  split <;> rfl
theorem dig_nat (z : Nat) (h : z < 10) : (UInt8.ofNat (48 + z)).toNat = 48 + z := by
  have : (48 + z) % 256 = 48 + z := Nat.mod_eq_of_lt (by omega)
  simpa using this
theorem dec_all : ∀ (j u : Nat), u < 10 ^ (j + 1) → (∀ c ∈ Lib.decDigits u, 48 ≤ c.toNat ∧ c.toNat ≤ 57) ∧ (Lib.decDigits u).foldl dv 0 = u ∧ 1 ≤ (Lib.decDigits u).length ∧ (Lib.decDigits u).length ≤ j + 1 := by
  intro j
  induction j with
  | zero =>
    intro u hu
    have hu' : u < 10 := by simpa using hu
    rw [dec_rec, if_pos hu']
    refine ⟨fun c hc => ?_, ?_, by simp, by simp⟩
    · rw [List.mem_singleton] at hc
      rw [hc, dig_nat u hu']
      omega
    · rw [List.foldl_cons, List.foldl_nil, dv, dig_nat u hu']
      omega
  | succ j ih =>
    intro u hu
    by_cases hl : u < 10
    · rw [dec_rec, if_pos hl]
      refine ⟨fun c hc => ?_, ?_, by simp, by simp⟩
      · rw [List.mem_singleton] at hc
        rw [hc, dig_nat u hl]
        omega
      · rw [List.foldl_cons, List.foldl_nil, dv, dig_nat u hl]
        omega
    · have hp : u / 10 < 10 ^ (j + 1) := by
        rw [Nat.pow_succ] at hu
        omega
      obtain ⟨h1, h2, h3, h4⟩ := ih (u / 10) hp
      rw [dec_rec, if_neg hl]
      refine ⟨fun c hc => ?_, ?_, ?_, ?_⟩
      · rcases List.mem_append.1 hc with hc | hc
        · exact h1 c hc
        · rw [List.mem_singleton] at hc
          rw [hc, dig_nat _ (by omega)]
          omega
      · rw [List.foldl_append, h2, List.foldl_cons, List.foldl_nil, dv, dig_nat _ (by omega)]
        omega
      · rw [List.length_append]; omega
      · rw [List.length_append, List.length_singleton]; omega
theorem parse_dig : ∀ (L : List UInt8) (acc a : Nat), (∀ c ∈ L, 48 ≤ c.toNat ∧ c.toNat ≤ 57) → acc < 10 ^ a → a + L.length ≤ 12 → Lib.parseUint10 acc L = .ok (L.foldl dv acc)
  | [], _, _, _, _, _ => rfl
  | c :: L, acc, a, hc, ha, hl => by
    have h0 := hc c (by simp)
    have hp : 10 ^ a ≤ 10 ^ 12 := Nat.pow_le_pow_right (by decide) (by omega)
    have hq : (10 : Nat) ^ 12 = 1000000000000 := by decide
    simp only [List.length_cons] at hl
    rw [Lib.parseUint10, if_pos h0, if_neg (by omega), if_neg (by omega), List.foldl_cons]
    exact parse_dig L (dv acc c) (a + 1) (fun x hx => hc x (by simp [hx])) (by unfold dv; rw [Nat.pow_succ]; omega) (by omega)
theorem mag_dec (u : Nat) (hu : u < 10000) : Lib.parseMag (Lib.decDigits u) = .ok u := by
  obtain ⟨h1, h2, h3, h4⟩ := dec_all 3 u (by simpa using hu)
  unfold Lib.parseMag
  rw [if_neg (fun h => by rw [h] at h3; simp at h3), parse_dig _ 0 0 h1 (by decide) (by omega), h2]
theorem itoa_pos (u : Nat) : Lib.itoa (u : Int) = Lib.decDigits u := by unfold Lib.itoa; rw [if_neg (by omega)]; simp
theorem itoa_min (u : Nat) (h : 1 ≤ u) : Lib.itoa (-(u : Int)) = 45 :: Lib.decDigits u := by unfold Lib.itoa; rw [if_pos (by omega)]; simp
theorem num_split (n : Int) (h0 : -9999 ≤ n) (h1 : n ≤ 9999) : (∃ u : Nat, u < 10000 ∧ n = u ∧ Lib.itoa n = Lib.decDigits u) ∨ ∃ u : Nat, 1 ≤ u ∧ u < 10000 ∧ n = -(u : Int) ∧ Lib.itoa n = 45 :: Lib.decDigits u := by
  by_cases hn : 0 ≤ n
  · obtain ⟨u, rfl⟩ := Int.eq_ofNat_of_zero_le hn
    exact Or.inl ⟨u, by omega, rfl, itoa_pos u⟩
  · obtain ⟨u, hu⟩ := Int.eq_ofNat_of_zero_le (show 0 ≤ -n by omega)
    have : n = -(u : Int) := by omega
    subst this
    exact Or.inr ⟨u, by omega, by omega, rfl, itoa_min u (by omega)⟩
theorem num_atoi (n : Int) (h0 : -9999 ≤ n) (h1 : n ≤ 9999) : atoiV (itoaB n) = some n := by
  unfold atoiV
  rw [show (itoaB n).data.toList = Lib.itoa n from rfl]
  rcases num_split n h0 h1 with ⟨u, hu, rfl, e⟩ | ⟨u, hu0, hu, rfl, e⟩
  · rw [e]
    obtain ⟨q1, q2, q3, q4⟩ := dec_all 3 u (by simpa using hu)
    have hm := mag_dec u hu
    cases hd : Lib.decDigits u with
    | nil => rw [hd] at q3; simp at q3
    | cons c r =>
      have hc := q1 c (by rw [hd]; simp)
      rw [Lib.atoiAll_plain c r (by omega) (by omega), ← hd, hm]
      simp only [Lib.signless]
      rw [if_neg (by omega)]
  · rw [e, Lib.atoiAll_minus, mag_dec u hu]
    simp only [Lib.signed]
    rw [if_neg (by omega)]
theorem num_size (n : Int) (h0 : -9999 ≤ n) (h1 : n ≤ 9999) : (itoaB n).size ≤ 5 := by
  have e0 : (itoaB n).size = (Lib.itoa n).length := by rw [← len_eq, Go.ByteArray.toList_eq]; rfl
  rcases num_split n h0 h1 with ⟨u, hu, rfl, e⟩ | ⟨u, hu0, hu, rfl, e⟩
  · obtain ⟨q1, q2, q3, q4⟩ := dec_all 3 u (by simpa using hu)
    rw [e0, e]; omega
  · obtain ⟨q1, q2, q3, q4⟩ := dec_all 3 u (by simpa using hu)
    rw [e0, e, List.length_cons]; omega
theorem num_blank (n : Int) (h0 : -9999 ≤ n) (h1 : n ≤ 9999) : ∀ b ∈ (itoaB n).toList, b ≠ 32 := by
  have e0 : (itoaB n).toList = Lib.itoa n := by rw [Go.ByteArray.toList_eq]; rfl
  have hb : ∀ b : UInt8, 48 ≤ b.toNat → b ≠ 32 := fun b hb e => by
    have h32 : (32 : UInt8).toNat = 32 := rfl
    rw [e] at hb
    omega
  rw [e0]
  rcases num_split n h0 h1 with ⟨u, hu, rfl, e⟩ | ⟨u, hu0, hu, rfl, e⟩
  · obtain ⟨q1, q2, q3, q4⟩ := dec_all 3 u (by simpa using hu)
    rw [e]
    exact fun b hbm => hb b (q1 b hbm).1
  · obtain ⟨q1, q2, q3, q4⟩ := dec_all 3 u (by simpa using hu)
    rw [e]
    intro b hbm
    rcases List.mem_cons.1 hbm with rfl | hbm
    · decide
    · exact hb b (q1 b hbm).1
theorem bt_list' {t : ByteArray} {i : Nat} {c : UInt8} {r : List UInt8} (h : t.toList.drop i = c :: r) : i < t.size ∧ bt t (i : Int) = (c.toNat : Int) ∧ t.toList.drop (i + 1) = r := by
  by_cases hi : i < t.size
  · obtain ⟨c', r', e1, e2, e3⟩ := bt_at t i hi
    rw [h] at e1
    injection e1 with a b
    subst a b
    exact ⟨hi, e3, e2⟩
  · rw [drop_all t i (by omega)] at h
    cases h
theorem wr_id (z : Int) (h0 : -1000000000000000 ≤ z) (h1 : z ≤ 1000000000000000) : wrap64 z = z := by unfold wrap64; omega
theorem number_all (w : ByteArray) (sg : Int) (hsg : sg = 1 ∨ sg = -1) : ∀ (L : List UInt8) (K i v a : Nat), (∀ c ∈ L, 48 ≤ c.toNat ∧ c.toNat ≤ 57) → w.toList.drop i = L → L.length + 1 ≤ K → v < 10 ^ a → a + L.length ≤ 12 → i + L.length ≤ 1000 →
    squelchref30_number.l0 K w (v : Int) sg (i : Int) = some (((L.foldl dv v : Nat) : Int) * sg)
  | _, 0, _, _, _, _, _, hK, _, _, _ => absurd hK (by omega)
  | [], K + 1, i, v, a, _, hd, _, hv, hl, _ => by
    have hp : 10 ^ a ≤ 10 ^ 12 := Nat.pow_le_pow_right (by decide) (by simpa using hl)
    have hq : (10 : Nat) ^ 12 = 1000000000000 := by decide
    have hi : w.size ≤ i := by
      have := congrArg List.length hd
      rw [List.length_drop, len_eq] at this
      simp at this
      omega
    rw [squelchref30_number.l0, if_neg (by omega), List.foldl_nil]
    rcases hsg with rfl | rfl
    · rw [wr_id _ (by omega) (by omega)]
    · rw [wr_id _ (by omega) (by omega)]
  | c :: L, K + 1, i, v, a, hc, hd, hK, hv, hl, hi => by
    have h0 := hc c (by simp)
    simp only [List.length_cons] at hi
    have hp : 10 ^ a ≤ 10 ^ 12 := Nat.pow_le_pow_right (by decide) (by simp at hl; omega)
    have hq : (10 : Nat) ^ 12 = 1000000000000 := by decide
    simp only [List.length_cons] at hK hl
    obtain ⟨hlt, hb, hd1⟩ := bt_list' hd
    have hm : Int.tmod (c.toNat : Int) 16 = (c.toNat : Int) - 48 := by rw [Int.tmod_eq_emod_of_nonneg (by omega)]; omega
    have hv' : (10 * (v : Int) + ((c.toNat : Int) - 48)) = ((dv v c : Nat) : Int) := by unfold dv; omega
    rw [squelchref30_number.l0, if_pos (by omega), if_pos (by omega), hb, if_neg (by omega), hm, wr_id (10 * (v : Int)) (by omega) (by omega), wr_id ((c.toNat : Int) - 48) (by omega) (by omega), wr_id _ (by omega) (by omega), hv', wr_id ((i : Int) + 1) (by omega) (by omega), List.foldl_cons]
    exact number_all w sg hsg L K (i + 1) (dv v c) (a + 1) (fun x hx => hc x (by simp [hx])) hd1 (by omega) (by unfold dv; rw [Nat.pow_succ]; omega) (by omega) (by omega)
theorem num_ref (n : Int) (h0 : -9999 ≤ n) (h1 : n ≤ 9999) : squelchref30_number.f 8 (itoaB n) = some n := by
  have hz := num_size n h0 h1
  have e0 : (itoaB n).toList = Lib.itoa n := by rw [Go.ByteArray.toList_eq]; rfl
  unfold squelchref30_number.f
  rw [if_neg (by omega)]
  rcases num_split n h0 h1 with ⟨u, hu, rfl, e⟩ | ⟨u, hu0, hu, rfl, e⟩
  · obtain ⟨q1, q2, q3, q4⟩ := dec_all 3 u (by simpa using hu)
    have := number_all (itoaB u) 1 (Or.inl rfl) (Lib.decDigits u) 8 0 0 0 q1 (by rw [List.drop_zero, e0, e]) (by omega) (by decide) (by omega) (by omega)
    rw [q2, Int.mul_one] at this
    exact this
  · obtain ⟨q1, q2, q3, q4⟩ := dec_all 3 u (by simpa using hu)
    have hd : (itoaB (-(u : Int))).toList.drop 0 = 45 :: Lib.decDigits u := by rw [List.drop_zero, e0, e]
    obtain ⟨hlt, hb, hd1⟩ := bt_list' hd
    have := number_all (itoaB (-(u : Int))) (-1) (Or.inr rfl) (Lib.decDigits u) 7 1 0 0 q1 hd1 (by omega) (by decide) (by omega) (by omega)
    rw [q2] at this
    have hb' : bt (itoaB (-(u : Int))) 0 = 45 := hb
    rw [squelchref30_number.l0, if_pos (show (0 : Int) < _ by omega), if_pos (by omega), hb', if_pos rfl, wr_id (0 + 1) (by omega) (by omega)]
    have h2 : squelchref30_number.l0 7 (itoaB (-(u : Int))) 0 (-1) (0 + 1) = some (-(u : Int)) := by
      have e3 : (u : Int) * (-1) = -(u : Int) := by omega
      rw [e3] at this
      exact this
    exact h2
theorem u64_id (z : Int) (h0 : 0 ≤ z) (h1 : z ≤ 1000000000000000) : IntKind.u64.wrap z = z := by
  show z % 18446744073709551616 = z
  omega
theorem dig_step (K u : Nat) (acc : ByteArray) (hu : u < 1000000) (ha : acc.size ≤ 1000) (h : acc.toList = [] ∨ 0 < u) : squelchref26_digits.l0 (K + 1) (u : Int) acc = squelchref26_digits.l0 K ((u / 10 : Nat) : Int) ((⟨#[UInt8.ofNat (48 + u % 10)]⟩ : ByteArray) ++ acc) := by
  have h1 : Int.tmod (u : Int) 10 = ((u % 10 : Nat) : Int) := by rw [Int.tmod_eq_emod_of_nonneg (by omega)]; omega
  have h2 : Int.tdiv (u : Int) 10 = ((u / 10 : Nat) : Int) := by rw [Int.tdiv_eq_ediv_of_nonneg (by omega)]; omega
  have h3 : IntKind.u64.wrap (48 + ((u % 10 : Nat) : Int)) % 256 = ((48 + u % 10 : Nat) : Int) := by rw [u64_id _ (by omega) (by omega)]; omega
  have h4 : IntKind.u64.wrap ((u / 10 : Nat) : Int) = ((u / 10 : Nat) : Int) := u64_id _ (by omega) (by omega)
  have h5 : strOfNums [((48 + u % 10 : Nat) : Int)] = ⟨#[UInt8.ofNat (48 + u % 10)]⟩ := by
    apply ba_eq
    rw [strOf_one, Go.ByteArray.toList_eq, Int.toNat_natCast]
  have h6 : (⟨#[UInt8.ofNat (48 + u % 10)]⟩ : ByteArray).size = 1 := rfl
  rw [squelchref26_digits.l0, h1, h2, h3, h4]
  simp only [Option.bind_some]
  rw [h5, h6, if_pos (show 1 + acc.size ≤ 9223372036854775807 by omega)]
  by_cases he : acc.toList = []
  · rw [if_pos he]
  · rcases h with h | h
    · exact absurd h he
    · rw [if_neg he, if_pos (by omega)]
theorem dig_end (K : Nat) (acc : ByteArray) (h : acc.toList ≠ []) : squelchref26_digits.l0 (K + 1) 0 acc = some acc := by
  rw [squelchref26_digits.l0, if_neg h, if_neg (by omega)]
theorem dig_all : ∀ (j u K : Nat) (acc : ByteArray), u < 10 ^ (j + 1) → j ≤ 4 → j + 2 ≤ K → acc.size + j ≤ 500 → (acc.toList = [] ∨ 0 < u) → squelchref26_digits.l0 K (u : Int) acc = some (⟨(Lib.decDigits u).toArray⟩ ++ acc) := by
  have ne : ∀ (c : UInt8) (acc : ByteArray), ((⟨#[c]⟩ : ByteArray) ++ acc).toList ≠ [] := fun c acc h => by
    rw [toList_app, Go.ByteArray.toList_eq ⟨#[c]⟩] at h
    cases h
  have small : ∀ (u K : Nat) (acc : ByteArray), u < 10 → 2 ≤ K → acc.size ≤ 500 → (acc.toList = [] ∨ 0 < u) → squelchref26_digits.l0 K (u : Int) acc = some (⟨(Lib.decDigits u).toArray⟩ ++ acc) := by
    intro u K acc hu hK ha h
    obtain ⟨K, rfl⟩ : ∃ k, K = k + 2 := ⟨K - 2, by omega⟩
    rw [dig_step (K + 1) u acc (by omega) (by omega) h, show u / 10 = 0 by omega]
    show squelchref26_digits.l0 (K + 1) 0 _ = _
    rw [dig_end K _ (ne _ acc), show u % 10 = u by omega, dec_rec, if_pos hu]
  intro j
  induction j with
  | zero =>
    intro u K acc hu _ hK ha h
    exact small u K acc (by simpa using hu) (by omega) (by omega) h
  | succ j ih =>
    intro u K acc hu hj hK ha h
    by_cases hl : u < 10
    · exact small u K acc hl (by omega) (by omega) h
    · obtain ⟨K, rfl⟩ : ∃ k, K = k + 1 := ⟨K - 1, by omega⟩
      have hp : 10 ^ (j + 1 + 1) ≤ 10 ^ 6 := Nat.pow_le_pow_right (by decide) (by omega)
      have hq : (10 : Nat) ^ 6 = 1000000 := by decide
      have h1 : (⟨#[UInt8.ofNat (48 + u % 10)]⟩ : ByteArray).size = 1 := rfl
      rw [dig_step K u acc (by omega) (by omega) h, ih (u / 10) K _ (by rw [Nat.pow_succ] at hu; omega) (by omega) (by omega) (by rw [ByteArray.size_append, h1]; omega) (Or.inr (by omega))]
      congr 1
      apply ba_eq
      rw [toList_app, toList_app, toList_app, Go.ByteArray.toList_eq ⟨(Lib.decDigits (u / 10)).toArray⟩, Go.ByteArray.toList_eq ⟨(Lib.decDigits u).toArray⟩, Go.ByteArray.toList_eq ⟨#[UInt8.ofNat (48 + u % 10)]⟩]
      show Lib.decDigits (u / 10) ++ ([UInt8.ofNat (48 + u % 10)] ++ acc.toList) = Lib.decDigits u ++ acc.toList
      rw [dec_rec u, if_neg hl, List.append_assoc]
theorem num_dig (n : Int) (h0 : -9999 ≤ n) (h1 : n ≤ 9999) : squelchref26_Digits.f 8 n = some (itoaB n) := by
  have he : (⟨#[]⟩ : ByteArray).toList = [] := by rw [Go.ByteArray.toList_eq]
  have h1' : (⟨#[45]⟩ : ByteArray).size = 1 := rfl
  unfold squelchref26_Digits.f squelchref26_digits.f
  rcases num_split n h0 h1 with ⟨u, hu, rfl, e⟩ | ⟨u, hu0, hu, rfl, e⟩
  · rw [if_neg (by omega), u64_id _ (by omega) (by omega), dig_all 3 u 8 ⟨#[]⟩ (by simpa using hu) (by omega) (by omega) (by decide) (Or.inl he), Option.bind_some]
    congr 1
    apply ba_eq
    rw [toList_app, he, List.append_nil, Go.ByteArray.toList_eq, Go.ByteArray.toList_eq]
    exact e.symm
  · have hw : IntKind.u64.wrap (-(IntKind.u64.wrap (-(u : Int)))) = (u : Int) := by
      show (-((-(u : Int)) % 18446744073709551616)) % 18446744073709551616 = (u : Int)
      omega
    have hsz : (⟨(Lib.decDigits u).toArray⟩ ++ (⟨#[]⟩ : ByteArray)).size ≤ 10 := by
      obtain ⟨q1, q2, q3, q4⟩ := dec_all 3 u (by simpa using hu)
      rw [← len_eq, toList_app, he, List.append_nil, Go.ByteArray.toList_eq]
      show (Lib.decDigits u).length ≤ 10
      omega
    rw [if_pos (by omega), hw, dig_all 3 u 8 ⟨#[]⟩ (by simpa using hu) (by omega) (by omega) (by decide) (Or.inl he), Option.bind_some, if_pos (by omega)]
    congr 1
    apply ba_eq
    rw [toList_app, toList_app, he, List.append_nil, Go.ByteArray.toList_eq, Go.ByteArray.toList_eq, Go.ByteArray.toList_eq]
    exact e.symm
end Go.Proofs.YtndgaeldndgioaaGreatDoor.Pure
end

section
/- script.set of draws that are none: nothing is set. -/
set_option linter.unusedVariables false
set_option linter.unusedSimpArgs false
namespace Go.Proofs.YtndgaeldndgioaaGreatDoor.QAll
open Go.RowKit Go.Proofs.YtndgaeldndgioaaGreatDoorW.PrintWords Go.Proofs.YtndgaeldndgioaaGreatDoorW.PrintLast Go.Proofs.YtndgaeldndgioaaGreatDoorW.PrintMore
set_option maxHeartbeats 8000000 in
set_option maxRecDepth 100000 in
theorem set_D_none {T : Nat × Obj} (B g : Nat) (e : Ev) (wd s1 : ByteArray) (w : World) (hB : EB T B g e w) (h : strings_CutPrefix.f wd ⟨#[35]⟩ = some (s1, false)) :
    Calls Tryz.prog 51 #[.pointer (some ⟨g, 0, none⟩), .int .i32 68, .string wd] w fun r w' => r = .returned (.bool false) ∧ EB T B g e w' ∧ Below B w w' := by
  have HE := Aside0.mk hB
  have HA := Aside0.mk h
  clear hB h
  go_enter Tryz.func51, Tryz.ntmps51
  go_wp2_with (fail)
  (with_reducible refine (strings_CutPrefix.calls wd ⟨#[35]⟩ s1 false _ HA.out).mono ?_)
  rintro r w1 ⟨rfl, hd1⟩
  have HE1 := Aside0.mk (EB_below HE.out hd1.below)
  have HB1 := Aside0.mk (hd1.below.mono (EB_le HE.out))
  clear hd1
  go_wp2_with (fail)
  go_ret
  exact ⟨rfl, HE1.out, HB1.out⟩
set_option maxHeartbeats 8000000 in
set_option maxRecDepth 100000 in
theorem set_D_odd {T : Nat × Obj} (B g : Nat) (e : Ev) (wd s1 : ByteArray) (w : World) (hB : EB T B g e w) (h : strings_CutPrefix.f wd ⟨#[35]⟩ = some (s1, true)) (ho : s1.size % 2 = 1) :
    Calls Tryz.prog 51 #[.pointer (some ⟨g, 0, none⟩), .int .i32 68, .string wd] w fun r w' => r = .returned (.bool false) ∧ EB T B g e w' ∧ Below B w w' := by
  have HE := Aside0.mk hB
  have HA := Aside0.mk h
  clear hB h
  have hm : Int.tmod (s1.size : Int) 2 = 1 := by rw [Int.tmod_eq_emod_of_nonneg (by omega)]; omega
  go_enter Tryz.func51, Tryz.ntmps51
  go_wp2_with (fail)
  (with_reducible refine (strings_CutPrefix.calls wd ⟨#[35]⟩ s1 true _ HA.out).mono ?_)
  rintro r w1 ⟨rfl, hd1⟩
  have HE1 := Aside0.mk (EB_below HE.out hd1.below)
  have HB1 := Aside0.mk (hd1.below.mono (EB_le HE.out))
  clear hd1
  go_wp2_with (fail)
  go_ret
  exact ⟨rfl, HE1.out, HB1.out⟩
end Go.Proofs.YtndgaeldndgioaaGreatDoor.QAll
end

section
/- script.set, whole: what a word makes of an event, by its letter. -/
set_option linter.unusedVariables false
set_option linter.unusedSimpArgs false
namespace Go.Proofs.YtndgaeldndgioaaGreatDoor.QAll
open Go.RowKit Go.Proofs.YtndgaeldndgioaaGreatDoorW.PrintWords Go.Proofs.YtndgaeldndgioaaGreatDoorW.PrintLast Go.Proofs.YtndgaeldndgioaaGreatDoorW.PrintMore
open Go.Proofs.YtndgaeldndgioaaGreatDoor.Fl
def setNum (e : Ev) (c v : Int) : Option Ev :=
  if c = 88 then some { e with x := v } else if c = 89 then some { e with y := v } else if c = 65 then some { e with a := v }
  else if c = 66 then some { e with b := v } else if c = 78 then some { e with n := v } else if c = 77 then some { e with m := v } else none
theorem setNum_calls {T : Nat × Obj} (B g : Nat) (e e' : Ev) (c v : Int) (wd : ByteArray) (w : World) (hE : EnvW w) (hB : EB T B g e w) (hs : wd.size ≤ 1000000) (h : atoiV wd = some v) (h0 : -9999 ≤ v) (h1 : v ≤ 9999) (hn : setNum e c v = some e') :
    Calls Tryz.prog 51 #[.pointer (some ⟨g, 0, none⟩), .int .i32 c, .string wd] w fun r w' => r = .returned (.bool true) ∧ EB T B g e' w' ∧ Below B w w' := by
  unfold setNum at hn
  by_cases c1 : c = 88
  · rw [if_pos c1] at hn
    obtain rfl := Option.some.inj hn
    subst c1
    exact set_X B g e wd v w hE hB hs h h0 h1
  rw [if_neg c1] at hn
  by_cases c2 : c = 89
  · rw [if_pos c2] at hn
    obtain rfl := Option.some.inj hn
    subst c2
    exact set_Y B g e wd v w hE hB hs h h0 h1
  rw [if_neg c2] at hn
  by_cases c3 : c = 65
  · rw [if_pos c3] at hn
    obtain rfl := Option.some.inj hn
    subst c3
    exact set_A B g e wd v w hE hB hs h h0 h1
  rw [if_neg c3] at hn
  by_cases c4 : c = 66
  · rw [if_pos c4] at hn
    obtain rfl := Option.some.inj hn
    subst c4
    exact set_B B g e wd v w hE hB hs h h0 h1
  rw [if_neg c4] at hn
  by_cases c5 : c = 78
  · rw [if_pos c5] at hn
    obtain rfl := Option.some.inj hn
    subst c5
    exact set_N B g e wd v w hE hB hs h h0 h1
  rw [if_neg c5] at hn
  by_cases c6 : c = 77
  · rw [if_pos c6] at hn
    obtain rfl := Option.some.inj hn
    subst c6
    exact set_M B g e wd v w hE hB hs h h0 h1
  rw [if_neg c6] at hn
  cases hn
/-- What set makes of an event, and what it tells. -/
def setC (e : Ev) (c : Int) (wd : ByteArray) : Option (Ev × Bool) :=
  if 100000 < wd.size ∨ 100000 < e.d.length then none
  else if c = 83 then (strings_TrimPrefix.f wd ⟨#[61]⟩).bind fun t0 => (script_texts.f (t0.size + 2) t0).bind fun t => (strings_HasPrefix.f wd ⟨#[61]⟩).map fun pf => ({ e with s := t.1 }, t.2 && pf)
  else if c = 68 then (strings_CutPrefix.f wd ⟨#[35]⟩).bind fun q =>
    if q.2 = true then if q.1.size % 2 = 1 then some (e, false) else if q.1.size ≤ 100000 then (drawsL (q.1.size + 2) q.1 e.d).map fun r => ({ e with d := r.1 }, r.2) else none
    else some (e, false)
  else match atoiV wd with
    | none => some (e, false)
    | some v => if -9999 ≤ v ∧ v ≤ 9999 then (setNum e c v).map fun e' => (e', true) else some (e, false)
theorem set_calls {T : Nat × Obj} (B g : Nat) (e e' : Ev) (c : Int) (wd : ByteArray) (ok : Bool) (w : World) (hE : EnvW w) (hB : EB T B g e w) (h : setC e c wd = some (e', ok)) :
    Calls Tryz.prog 51 #[.pointer (some ⟨g, 0, none⟩), .int .i32 c, .string wd] w fun r w' => r = .returned (.bool ok) ∧ EB T B g e' w' ∧ Below B w w' := by
  unfold setC at h
  by_cases hz : 100000 < wd.size ∨ 100000 < e.d.length
  · rw [if_pos hz] at h
    cases h
  rw [if_neg hz] at h
  by_cases c1 : c = 83
  · rw [if_pos c1] at h
    subst c1
    obtain ⟨t0, h0, h⟩ := Option.bind_eq_some_iff.1 h
    obtain ⟨t, h1, h⟩ := Option.bind_eq_some_iff.1 h
    obtain ⟨pf, h2, h⟩ := Option.map_eq_some_iff.1 h
    obtain ⟨rfl, rfl⟩ := Prod.mk.inj h
    exact set_S B g e wd _ t.1 t.2 t0 pf w hB h0 h1 h2
  rw [if_neg c1] at h
  by_cases c2 : c = 68
  · rw [if_pos c2] at h
    subst c2
    obtain ⟨⟨s1, is⟩, h0, h⟩ := Option.bind_eq_some_iff.1 h
    cases is with
    | false =>
      rw [if_neg (show ¬ (s1, false).2 = true from Bool.false_ne_true)] at h
      obtain ⟨rfl, rfl⟩ := Prod.mk.inj (Option.some.inj h)
      exact set_D_none B g e wd s1 w hB h0
    | true =>
      rw [if_pos rfl] at h
      by_cases ho : s1.size % 2 = 1
      · rw [if_pos ho] at h
        obtain ⟨rfl, rfl⟩ := Prod.mk.inj (Option.some.inj h)
        exact set_D_odd B g e wd s1 w hB h0 ho
      · rw [if_neg ho] at h
        by_cases hs : s1.size ≤ 100000
        · rw [if_pos hs] at h
          obtain ⟨r, hr, h⟩ := Option.map_eq_some_iff.1 h
          obtain ⟨rfl, rfl⟩ := Prod.mk.inj h
          exact set_D B g e wd s1 _ r.1 r.2 w hB h0 (by omega) hs (by omega) hr
        · rw [if_neg hs] at h
          cases h
  rw [if_neg c2] at h
  cases ha : atoiV wd with
  | none =>
    rw [ha] at h
    obtain ⟨rfl, rfl⟩ := Prod.mk.inj (Option.some.inj h)
    exact set_none B g e c wd w hE hB c1 c2 (by omega) ha
  | some v =>
    rw [ha] at h
    by_cases hv : -9999 ≤ v ∧ v ≤ 9999
    · simp only [if_pos hv] at h
      obtain ⟨e1, h1, h⟩ := Option.map_eq_some_iff.1 h
      obtain ⟨rfl, rfl⟩ := Prod.mk.inj h
      exact setNum_calls B g e e1 c v wd w hE hB (by omega) ha hv.1 hv.2 h1
    · simp only [if_neg hv] at h
      obtain ⟨rfl, rfl⟩ := Prod.mk.inj (Option.some.inj h)
      exact set_out B g e c wd v w hE hB c1 c2 (by omega) ha hv
end Go.Proofs.YtndgaeldndgioaaGreatDoor.QAll
end

section
/- Walks, written by a program of this session (wip/pp): a Go function comes to what the Lean function beside it tells. -/
namespace Go.Proofs.YtndgaeldndgioaaGreatDoor.QAll
open Go.RowKit Go.Proofs.YtndgaeldndgioaaGreatDoorW.PrintWords Go.Proofs.YtndgaeldndgioaaGreatDoorW.PrintLast Go.Proofs.YtndgaeldndgioaaGreatDoorW.PrintMore
attribute [local go_sem] max2_int min2_int max_two min_two max_three min_three max_four min_four
set_option linter.unusedVariables false
set_option linter.unusedSimpArgs false

def script_kindOf.l0 : Nat → ByteArray → Int → Option (Int)
 | 0, _, _ => none
 | k + 1, x0, x3 => if x3 ≤ 11 then ((script_form.f x3).bind fun bt113 => (if bt113.1.toList = x0.toList then (some x3) else (script_kindOf.l0 k x0 (wrap64 (x3 + 1))))) else (some 0)
def script_kindOf.f (k : Nat) (a0 : ByteArray) : Option (Int) := script_kindOf.l0 k a0 1
set_option maxHeartbeats 8000000 in
set_option maxRecDepth 100000 in
theorem script_kindOf.calls (k : Nat) (a0 : ByteArray) (r : Int) (w : World) (h : script_kindOf.f k a0 = some r) :
  Calls Tryz.prog 49 #[.string a0] w fun e w' => e = .returned (.int .i64 r) ∧ Below w.heap.size w w' := by
 have HB := Aside0.mk (Below.refl w.heap.size w)
 have H : (script_kindOf.l0 k a0 1) = some r := h
 clear h
 have H' := Aside0.mk H
 clear H
 go_enter Tryz.func49, Tryz.ntmps49
 go_wp2
 go_loopg [3] k (fun kq v3 w' => ∃ (x3_1 : Int), v3 = .int .i64 x3_1 ∧ Aside0 (script_kindOf.l0 kq a0 x3_1 = some r) ∧ Aside0 (kq ≤ k) ∧ Aside0 (Below w.heap.size w w'))
 case atStart => exact ⟨(1), (by first | rfl | (simp; done) | (simp [*]; done) | (simp; exact (fun l : List UInt8 => (by cases l <;> rfl : l.isEmpty = !(l != []))) _)), H', ⟨Nat.le_refl _⟩, ⟨by repeat (first | (with_reducible first | exact HB.out | apply below_alloc | apply pw_below_drewN | apply below_drew1) | exact HB.out)⟩⟩
 case round =>
  clear H'
  obtain ⟨x3_1, rfl, HA, HK1, HB⟩ := hrel
  cases gk with
  | zero => exact absurd HA.out (by simp [script_kindOf.l0])
  | succ k1 =>
   have H := HA.out
   clear HA
   simp only [script_kindOf.l0] at H
   by_cases c2 : x3_1 ≤ 11
   ·rw [if_pos c2] at H
    have c2b0 : decide (x3_1 ≤ 11) = true := decide_eq_true c2
    clear c2
    replace H := Option.bind_eq_some_iff.mp H
    obtain ⟨⟨t113, t114⟩, A30, H⟩ := H
    replace H : (if t113.toList = a0.toList then (some x3_1) else (script_kindOf.l0 k1 a0 (wrap64 (x3_1 + 1)))) = some r := H
    have A3 := Aside0.mk A30
    clear A30
    by_cases c4 : t113.toList = a0.toList
    ·rw [if_pos c4] at H
     have c4b0 : (t113.toList == a0.toList) = true := beq_iff_eq.mpr c4
     have c4b1 : (t113.toList != a0.toList) = false := bne_eq_false_iff_eq.mpr c4
     clear c4
     obtain rfl := Option.some.inj H
     go_wp2_with (first | ((with_reducible refine gate_callee (f := 50) rfl ?_); refine goesL_ (some 12) rfl rfl Tryz.func50 (by kernel_rfl) rfl #[.int .i64 x3_1] rfl (by (try simp only [List.map_toArray, List.map_cons, List.map_nil]); first | done | rfl | (simp only [List.length_drop, List.length_take]; rfl)) ?_; (with_reducible refine (script_form.calls x3_1 t113 t114 _ A3.out).mono ?_); rintro e w5 ⟨rfl, hb⟩; refine ⟨_, rfl, ?_⟩; have n0_ := Aside0.mk (below_step (by repeat (first | (with_reducible first | exact HB.out | apply below_alloc | apply pw_below_drewN | apply below_drew1) | exact HB.out)) hb); clear HB; have HB := n0_; clear n0_; (try clear hb); (try clear hb2); (try clear hk); (try clear hi)))
     go_ret
     exact ⟨by first | rfl | (simp [errW_none, errW_some] <;> rfl) | (simp [*, errW_none, errW_some] <;> rfl), by repeat (first | (with_reducible first | exact HB.out | apply below_alloc | apply pw_below_drewN | apply below_drew1) | exact HB.out)⟩
    ·rw [if_neg c4] at H
     have c4b0 : (t113.toList == a0.toList) = false := beq_eq_false_iff_ne.mpr c4
     have c4b1 : (t113.toList != a0.toList) = true := bne_iff_ne.mpr c4
     have H' := Aside0.mk H
     clear H
     go_wp2_with (first | ((with_reducible refine gate_callee (f := 50) rfl ?_); refine goesL_ (some 12) rfl rfl Tryz.func50 (by kernel_rfl) rfl #[.int .i64 x3_1] rfl (by (try simp only [List.map_toArray, List.map_cons, List.map_nil]); first | done | rfl | (simp only [List.length_drop, List.length_take]; rfl)) ?_; (with_reducible refine (script_form.calls x3_1 t113 t114 _ A3.out).mono ?_); rintro e w6 ⟨rfl, hb⟩; refine ⟨_, rfl, ?_⟩; have n0_ := Aside0.mk (below_step (by repeat (first | (with_reducible first | exact HB.out | apply below_alloc | apply pw_below_drewN | apply below_drew1) | exact HB.out)) hb); clear HB; have HB := n0_; clear n0_; (try clear hb); (try clear hb2); (try clear hk); (try clear hi)))
     go_roundg k1
     case measure => have := HK1.out; omega
     case rel => exact ⟨(wrap64 (x3_1 + 1)), (by first | rfl | (simp; done) | (simp [*]; done) | (simp; exact (fun l : List UInt8 => (by cases l <;> rfl : l.isEmpty = !(l != []))) _)), H', ⟨by have := HK1.out; omega⟩, ⟨by repeat (first | (with_reducible first | exact HB.out | apply below_alloc | apply pw_below_drewN | apply below_drew1) | exact HB.out)⟩⟩
   ·rw [if_neg c2] at H
    have c2b0 : decide (x3_1 ≤ 11) = false := decide_eq_false c2
    clear c2
    obtain rfl := Option.some.inj H
    go_wp2
    go_ret
    exact ⟨by first | rfl | (simp [errW_none, errW_some] <;> rfl) | (simp [*, errW_none, errW_some] <;> rfl), by repeat (first | (with_reducible first | exact HB.out | apply below_alloc | apply pw_below_drewN | apply below_drew1) | exact HB.out)⟩

end Go.Proofs.YtndgaeldndgioaaGreatDoor.QAll
end

section
/- script.read, walked by hand: the event of a line, and whether there is one. -/
set_option linter.unusedVariables false
set_option linter.unusedSimpArgs false
namespace Go.Proofs.YtndgaeldndgioaaGreatDoor.QAll
open Go.RowKit Go.Proofs.YtndgaeldndgioaaGreatDoorW.PrintWords Go.Proofs.YtndgaeldndgioaaGreatDoorW.PrintLast Go.Proofs.YtndgaeldndgioaaGreatDoorW.PrintMore
open Go.Proofs.YtndgaeldndgioaaGreatDoor.Fl
attribute [local go_sem] run_store_complex
/-- The letters' words set, one by one: the event, if each can be. -/
def readL : List UInt8 → List ByteArray → Ev → Option (Option Ev)
  | [], _, e => some (some e)
  | _ :: _, [], _ => none
  | c :: cs, wd :: ws, e => (setC e (c.toNat : Int) wd).bind fun p => if p.2 = true then readL cs ws p.1 else some none
def ev0 (k : Int) : Ev := ⟨k, 0, 0, 0, 0, ⟨#[]⟩, 0, 0, []⟩
/-- What read tells of the words, when the letters are as many. -/
def readG (k : Nat) (ws : List ByteArray) : Option (Ev × Bool) :=
  if (lettersOf k).size = 0 ∨ (lettersOf k).size ≠ ws.length then some (ev0 0, false)
  else (readL (lettersOf k).data.toList ws (ev0 k)).map fun r => match r with
    | none => (ev0 0, false)
    | some e => (e, true)
theorem fl_0 : fl 0 = 0 := by kernel_rfl
theorem eight_set {w : World} {g : Nat} {a b c d e f h i a' b' c' d' e' f' h' i' : Value} {t : TypeId} (hw : w.heap[g]? = some (.cells #[a, b, c, d, e, f, h, i] t (0, 0))) :
    ((((((((w.setCell ⟨g, 0, none⟩ a').setCell ⟨g, 1, none⟩ b').setCell ⟨g, 2, none⟩ c').setCell ⟨g, 3, none⟩ d').setCell ⟨g, 4, none⟩ e').setCell ⟨g, 5, none⟩ f').setCell ⟨g, 6, none⟩ h').setCell ⟨g, 7, none⟩ i').heap[g]? = some (.cells #[a', b', c', d', e', f', h', i'] t (0, 0)) := by
  simp [World.setCell, Array.getElem?_modify, hw]
theorem EB_next {gi B g : Nat} {lt : ByteArray} {j : Nat} {e : Ev} {W : World} (h : EB (gi, .stringIter lt j) B g e W) : EB (gi, .stringIter lt (j + 1)) B g e (W.iterAt gi lt (j + 1)) := by
  obtain ⟨v, h1, h2, h3, h4, h5⟩ := h
  have hne : g ≠ gi := by have : g < gi := h5; omega
  exact ⟨v, Kd.R_step h1 (fun k hk _ => Lib.iterAt_other W gi k lt (j + 1) hk.2), (Lib.iterAt_other W gi _ lt (j + 1) hne).trans h2, h3, Lib.iterAt_heap W gi lt j (j + 1) h4, h5⟩
theorem R_ev0 (w : World) (B : Nat) : (Kd.int .u8).R 5 w B (fun _ => True) (.slice none (ev0 0).d.length 0) (ev0 0).d := Kd.R_nil _ _ _ _ _
theorem evV_0 : evV (ev0 0) none 0 = .agg #[.int .i64 0, .int .i64 0, .int .i64 0, .int .i64 0, .int .i64 0, .string ⟨#[]⟩, .complex .f64 0 0, .slice none 0 0] := by
  unfold evV ev0
  simp only [fl_0]
  rfl
theorem below_sets {B : Nat} {w W : World} {h : Nat} (hb : Below B w W) (hB : B ≤ h) (a b c d e f i j : Value) : Below B w ((((((((W.setCell ⟨h, 0, none⟩ a).setCell ⟨h, 1, none⟩ b).setCell ⟨h, 2, none⟩ c).setCell ⟨h, 3, none⟩ d).setCell ⟨h, 4, none⟩ e).setCell ⟨h, 5, none⟩ f).setCell ⟨h, 6, none⟩ i).setCell ⟨h, 7, none⟩ j) :=
  (((((((hb.setCell (p := ⟨h, 0, none⟩) hB a).setCell (p := ⟨h, 1, none⟩) hB b).setCell (p := ⟨h, 2, none⟩) hB c).setCell (p := ⟨h, 3, none⟩) hB d).setCell (p := ⟨h, 4, none⟩) hB e).setCell (p := ⟨h, 5, none⟩) hB f).setCell (p := ⟨h, 6, none⟩) hB i).setCell (p := ⟨h, 7, none⟩) hB j
theorem R_sets {B : Nat} {W : World} {h : Nat} {ok : Nat → Prop} {v : Value} {xs : List Int} (hR : (Kd.int .u8).R 5 W B ok v xs) (hB : h < B) (a b c' d e f i j : Value) : (Kd.int .u8).R 5 ((((((((W.setCell ⟨h, 0, none⟩ a).setCell ⟨h, 1, none⟩ b).setCell ⟨h, 2, none⟩ c').setCell ⟨h, 3, none⟩ d).setCell ⟨h, 4, none⟩ e).setCell ⟨h, 5, none⟩ f).setCell ⟨h, 6, none⟩ i).setCell ⟨h, 7, none⟩ j) h (fun _ => True) v xs := by
  have h0 := Kd.R_mono (ok' := fun k => k ≠ h) (Kd.R_bound hR) (fun k hk => by have := hk.2.1; omega)
  exact Kd.R_lower (Kd.R_mono (Kd.R_far (Kd.R_far (Kd.R_far (Kd.R_far (Kd.R_far (Kd.R_far (Kd.R_far (Kd.R_far h0 (p := ⟨h, 0, none⟩) (fun k hk => hk) a) (p := ⟨h, 1, none⟩) (fun k hk => hk) b) (p := ⟨h, 2, none⟩) (fun k hk => hk) c') (p := ⟨h, 3, none⟩) (fun k hk => hk) d) (p := ⟨h, 4, none⟩) (fun k hk => hk) e) (p := ⟨h, 5, none⟩) (fun k hk => hk) f) (p := ⟨h, 6, none⟩) (fun k hk => hk) i) (p := ⟨h, 7, none⟩) (fun k hk => hk) j) (fun _ _ => trivial)) (Nat.le_of_lt hB)
set_option maxHeartbeats 8000000 in
set_option maxRecDepth 100000 in
theorem read_core (s l0 : ByteArray) (ws : List ByteArray) (K k : Nat) (out : Ev × Bool) (w : World) (hE : EnvW w) (hs : s.size ≤ 1000000) (hsp : splitS s ⟨#[32]⟩ = l0 :: ws) (hk : script_kindOf.f K l0 = some (k : Int)) (hk12 : k < 12) (hr : readG k ws = some out) :
    Calls Tryz.prog 16 #[.string s] w fun r w' => ∃ A c, r = .returned (.tuple #[evV out.1 A c, .bool out.2]) ∧ (Kd.int .u8).R 5 w' w.heap.size (fun _ => True) (.slice A out.1.d.length c) out.1.d ∧ Below w.heap.size w w' := by
  have hsp1 : strings_Split.f s ⟨#[32]⟩ = some (l0 :: ws) := by
    unfold strings_Split.f
    rw [if_pos ⟨by show 1 ≤ 1; omega, hs⟩, hsp]
  have HS := Aside0.mk hsp1
  have HK := Aside0.mk hk
  have HG := Aside0.mk hr
  have HF := Aside0.mk (form_at k hk12)
  have HA := Aside0.mk (lett_ascii k hk12)
  have hlz := lett_size k hk12
  clear hsp1 hsp hk hr
  go_enter Tryz.func16, Tryz.ntmps16
  go_wp2_with (fail)
  (with_reducible refine (strings_Split.calls s ⟨#[32]⟩ _ _ (hE.below ((Below.refl _ _).alloc (Nat.le_refl _) _)) HS.out).mono ?_)
  rintro e w2 ⟨v0, rfl, hR, hb2⟩
  have HX2 := Aside0.mk ((hb2.block w.heap.size (by simp)).trans (heap_alloc_new w _))
  have HB2 := Aside0.mk (below_step ((Below.refl w.heap.size w).alloc (Nat.le_refl _) _) hb2)
  have HZ2 := Aside0.mk (show w.heap.size < w2.heap.size from Nat.lt_of_lt_of_le (by simp) hb2.size)
  clear hb2
  obtain ⟨A6, c6, rfl, hc6, hC6⟩ := Kd.R_reads hR
  have HV2 := Aside0.mk (Kd.V_bound (Kd.R_V (base' := 0) hR))
  clear hR
  have hmx := Kd.C_max hC6
  rw [List.length_cons] at hmx
  obtain ⟨ad, hA, hx⟩ := Kd.at_string hC6 0 (by omega) (by simp)
  subst hA
  rw [show rdOf ByteArray.empty (l0 :: ws) 0 = l0 from rfl, show ((0 : Int)).toNat = 0 from rfl, Addr.add_zero'] at hx
  go_wp2_with (fail)
  (with_reducible refine (script_kindOf.calls K l0 k _ HK.out).mono ?_)
  rintro e w3 ⟨rfl, hb3⟩
  have HX3 := Aside0.mk ((hb3.block _ HZ2.out).trans HX2.out)
  have HB3 := Aside0.mk (below_then HB2.out (Nat.le_of_lt HZ2.out) hb3)
  have HV3 := Aside0.mk (Kd.V_below HV2.out hb3)
  have HZ3 := Aside0.mk (show w.heap.size < w3.heap.size from Nat.lt_of_lt_of_le HZ2.out hb3.size)
  have HW3 := Aside0.mk (show w2.heap.size ≤ w3.heap.size from hb3.size)
  clear hb3 HX2 HB2 HV2 hC6 hx hc6
  go_wp2_with (fail)
  (with_reducible refine (script_form.calls k (nameOf k) (lettersOf k) _ HF.out).mono ?_)
  rintro e w4 ⟨rfl, hb4⟩
  have HX4 := Aside0.mk ((hb4.block w.heap.size (by have := HZ3.out; simp; omega)).trans ((Below.heap_alloc _ _ _ HZ3.out).trans HX3.out))
  have HB4 := Aside0.mk (below_then (HB3.out.alloc (Nat.le_of_lt HZ3.out) (.cells #[.int .i64 (k : Int), .int .i64 0, .int .i64 0, .int .i64 0, .int .i64 0, .string ⟨#[]⟩, .complex .f64 0 0, .slice none 0 0] 26 (0, 0))) (by have := HZ3.out; simp; omega) hb4)
  have HV4 := Aside0.mk (Kd.V_below (Kd.V_alloc HV3.out (.cells #[.int .i64 (k : Int), .int .i64 0, .int .i64 0, .int .i64 0, .int .i64 0, .string ⟨#[]⟩, .complex .f64 0 0, .slice none 0 0] 26 (0, 0))) hb4)
  have HG4 := Aside0.mk ((hb4.block w3.heap.size (by simp)).trans (heap_alloc_new w3 (.cells #[.int .i64 (k : Int), .int .i64 0, .int .i64 0, .int .i64 0, .int .i64 0, .string ⟨#[]⟩, .complex .f64 0 0, .slice none 0 0] 26 (0, 0))))
  have HL4 := Aside0.mk (show w3.heap.size < w4.heap.size from Nat.lt_of_lt_of_le (by simp) hb4.size)
  clear hb4 HX3 HB3 HV3
  have hg := HG.out
  unfold readG at hg
  by_cases hz : (lettersOf k).size = 0
  · rw [if_pos (Or.inl hz)] at hg
    have hemp : ((lettersOf k).toList == []) = true := by
      rw [Go.ByteArray.toList_eq]
      have : (lettersOf k).data.toList.length = 0 := by simpa using hz
      rw [List.length_eq_zero_iff.1 this]
      rfl
    obtain rfl := Option.some.inj hg
    clear hg
    obtain ⟨k0, k1, k2, k3, k4, k5, k6, k7⟩ := cells8 HX4.out
    have f0 := Lib.frozen_of_heap HX4.out 0
    have f1 := Lib.frozen_of_heap HX4.out 1
    have f2 := Lib.frozen_of_heap HX4.out 2
    have f3 := Lib.frozen_of_heap HX4.out 3
    have f4 := Lib.frozen_of_heap HX4.out 4
    have f5 := Lib.frozen_of_heap HX4.out 5
    have f6 := Lib.frozen_of_heap HX4.out 6
    have f7 := Lib.frozen_of_heap HX4.out 7
    go_wp2_with (fail)
    refine bodyPost_ret (results_ct rfl _ _ w.heap.size 26 #[.int .i64 0, .int .i64 0, .int .i64 0, .int .i64 0, .int .i64 0, .string ⟨#[]⟩, .complex .f64 0 0, .slice none 0 0] (0, 0) _ rfl ?hc Tryz.underlying26 rfl (by kernel_rfl)) rfl ?_
    case hc => exact eight_set HX4.out
    exact ⟨none, 0, by rw [evV_0]; rfl, R_ev0 _ _, below_sets HB4.out (Nat.le_refl _) _ _ _ _ _ _ _ _⟩
  have hemp : ((lettersOf k).toList == []) = false := by
    rw [Go.ByteArray.toList_eq]
    have : (lettersOf k).data.toList.length = (lettersOf k).size := by simp
    cases hq : (lettersOf k).data.toList with
    | nil => rw [hq] at this; exact absurd this.symm hz
    | cons _ _ => rfl
  by_cases hl : (lettersOf k).size = ws.length
  case neg =>
    rw [if_pos (Or.inr hl)] at hg
    have hne : ((((lettersOf k).size : Nat) : Int) != wrap64 ((ws.length : Nat) : Int)) = true := bne_iff_ne.2 (by unfold wrap64; omega)
    obtain rfl := Option.some.inj hg
    clear hg
    obtain ⟨k0, k1, k2, k3, k4, k5, k6, k7⟩ := cells8 HX4.out
    have f0 := Lib.frozen_of_heap HX4.out 0
    have f1 := Lib.frozen_of_heap HX4.out 1
    have f2 := Lib.frozen_of_heap HX4.out 2
    have f3 := Lib.frozen_of_heap HX4.out 3
    have f4 := Lib.frozen_of_heap HX4.out 4
    have f5 := Lib.frozen_of_heap HX4.out 5
    have f6 := Lib.frozen_of_heap HX4.out 6
    have f7 := Lib.frozen_of_heap HX4.out 7
    go_wp2_with (fail)
    refine bodyPost_ret (results_ct rfl _ _ w.heap.size 26 #[.int .i64 0, .int .i64 0, .int .i64 0, .int .i64 0, .int .i64 0, .string ⟨#[]⟩, .complex .f64 0 0, .slice none 0 0] (0, 0) _ rfl ?hc Tryz.underlying26 rfl (by kernel_rfl)) rfl ?_
    case hc => exact eight_set HX4.out
    exact ⟨none, 0, by rw [evV_0]; rfl, R_ev0 _ _, below_sets HB4.out (Nat.le_refl _) _ _ _ _ _ _ _ _⟩
  rw [if_neg (by omega)] at hg
  obtain ⟨res, hres, hout⟩ := Option.map_eq_some_iff.1 hg
  have HRes := Aside0.mk hres
  clear hg hres
  have hne : ((((lettersOf k).size : Nat) : Int) != wrap64 ((ws.length : Nat) : Int)) = false := by rw [bne_eq_false_iff_eq]; unfold wrap64; omega
  clear hmx
  generalize lettersOf k = lt at *
  go_wp2_with (fail)
  have HN := Aside0.mk (show EB (w4.heap.size, .stringIter lt 0) w3.heap.size w3.heap.size (ev0 k) (w4.iter lt 0) ∧ (w4.iter lt 0).heap[w.heap.size]? = some (.cells #[.int .i64 0, .int .i64 0, .int .i64 0, .int .i64 0, .int .i64 0, .string ⟨#[]⟩, .complex .f64 0 0, .slice none 0 0] 26 (0, 0)) ∧ Below w.heap.size w (w4.iter lt 0) ∧ Kd.V Kd.string 9 (w4.iter lt 0) 0 (fun i => True ∧ i < w2.heap.size) (.slice (some ad) (l0 :: ws).length c6) (l0 :: ws) from ⟨⟨.slice none 0 0, Kd.R_nil _ _ _ _ _, (Below.heap_alloc _ _ _ HL4.out).trans (by rw [HG4.out]; simp only [ev0, fl_0]), Nat.le_refl _, World.iter_heap w4 lt 0, HL4.out⟩, (Below.heap_alloc _ _ _ (Nat.lt_trans HZ3.out HL4.out)).trans HX4.out, HB4.out.alloc (Nat.le_of_lt (Nat.lt_trans HZ3.out HL4.out)) _, Kd.V_alloc HV4.out _⟩)
  clear hne
  have hgi : w.heap.size < w3.heap.size := HZ3.out
  have hw23 : w2.heap.size ≤ w3.heap.size := HW3.out
  clear HX4 HB4 HV4 HG4 HL4
  generalize w4.iter lt 0 = w5 at HN ⊢
  generalize w4.heap.size = gi at HN ⊢
  generalize w3.heap.size = g at HN hgi hw23 ⊢
  go_loopw [] (fun wr => ∃ (j : Nat) (e : Ev), j ≤ lt.size ∧ Aside0 (readL (lt.data.toList.drop j) (ws.drop j) e = some res) ∧ Aside0 (EB (gi, .stringIter lt j) g g e wr ∧ wr.heap[w.heap.size]? = some (.cells #[.int .i64 0, .int .i64 0, .int .i64 0, .int .i64 0, .int .i64 0, .string ⟨#[]⟩, .complex .f64 0 0, .slice none 0 0] 26 (0, 0)) ∧ Below w.heap.size w wr ∧ Kd.V Kd.string 9 wr 0 (fun i => True ∧ i < w2.heap.size) (.slice (some ad) (l0 :: ws).length c6) (l0 :: ws))) (fun wr => lt.size - wr.iterPos gi)
  case atStart => exact ⟨0, ev0 k, Nat.zero_le _, HRes, HN⟩
  case round =>
    obtain ⟨j, e, hj, HRj, HNj⟩ := hrel
    clear HN HRes
    have hit : wr.heap[gi]? = some (.stringIter lt j) := by obtain ⟨_, _, _, _, h, _⟩ := HNj.out.1; exact h
    by_cases hlt : j < lt.size
    · have hjw : j < ws.length := hl ▸ hlt
      have hnx := fun (ty : TypeId) => Lib.run_next_ascii_at (P := Tryz.prog) wr gi lt j ty hit hlt (HA.out j hlt)
      have hip : wr.iterPos gi = j := iterPos_of hit
      have hggi : g < gi := by obtain ⟨_, _, _, _, _, h⟩ := HNj.out.1; exact h
      have HE := Aside0.mk (EB_next HNj.out.1)
      have HX := Aside0.mk ((Lib.iterAt_other wr gi w.heap.size lt (j + 1) (by omega)).trans HNj.out.2.1)
      have HB : Aside0 (Below w.heap.size w (wr.iterAt gi lt (j + 1))) := ⟨Lib.below_iterAt HNj.out.2.2.1 (by omega) lt (j + 1)⟩
      have HV := Aside0.mk (Kd.V_step HNj.out.2.2.2 (fun i hi _ => Lib.iterAt_other wr gi i lt (j + 1) (by have := hi.2; omega)))
      clear HNj hit
      have hdr : lt.data.toList.drop j = lt[j]'hlt :: lt.data.toList.drop (j + 1) := by
        rw [List.drop_eq_getElem_cons (by simpa using hlt)]
        rfl
      have hdw : ws.drop j = ws[j]'hjw :: ws.drop (j + 1) := List.drop_eq_getElem_cons hjw
      have hl := HRj.out
      rw [hdr, hdw, readL] at hl
      obtain ⟨p, hp, hrest⟩ := Option.bind_eq_some_iff.1 hl
      have HRest := Aside0.mk hrest
      have HP := Aside0.mk hp
      clear hl hrest hp hdr hdw HRj
      obtain ⟨hn1, hn2, hcj⟩ := Kd.V_reads' HV.out
      obtain ⟨ad', hA', hx⟩ := Kd.at_string hcj ((j + 1 : Nat) : Int) (by omega) (by simp; omega)
      obtain rfl := Option.some.inj hA'
      rw [Int.toNat_natCast, show rdOf ByteArray.empty (l0 :: ws) ((j + 1 : Nat) : Int) = ws[j]'hjw by (unfold rdOf; rw [Int.toNat_natCast, List.getD_cons_succ, List.getD_eq_getElem?_getD, List.getElem?_eq_getElem hjw]; rfl)] at hx
      rw [Addr.add, if_neg (by omega)] at hx
      clear hn1 hn2 hcj
      have hbj : ((j : Int) + 1 < (ws.length : Int) + 1) = True := eq_true (by omega)
      have hb0 : ((j : Int) + 1 < 0) = False := eq_false (by omega)
      go_wp2_with (first | rw [hnx] | (go_at_call 51; fail))
      (with_reducible refine (set_calls g g e p.1 ((lt[j]'hlt).toNat : Int) (ws[j]'hjw) p.2 _ (hE.below HB.out) HE.out HP.out).mono ?_)
      rintro r w7 ⟨rfl, hEB7, hb7⟩
      clear hbj hb0
      have HE7 := Aside0.mk hEB7
      have HX7 := Aside0.mk ((hb7.block w.heap.size hgi).trans HX.out)
      have HB7 := Aside0.mk (HB.out.trans (hb7.mono (Nat.le_of_lt hgi)))
      have HV7 := Aside0.mk (Kd.V_step HV.out (fun i hi _ => hb7.block i (by have := hi.2; omega)))
      clear HE HX HB HV hEB7 hb7 hx HP hnx
      cases hp2 : p.2 with
      | true =>
        have hre := HRest.out
        rw [hp2, if_pos rfl] at hre
        have HRe := Aside0.mk hre
        clear hre HRest
        go_wp2_with (fail)
        go_roundw
        case rel => exact ⟨j + 1, p.1, by omega, HRe, ⟨HE7.out, HX7.out, HB7.out, HV7.out⟩⟩
        case measure =>
          have : w7.iterPos gi = j + 1 := by obtain ⟨_, _, _, _, h, _⟩ := HE7.out; exact iterPos_of h
          omega
      | false =>
        have hre := HRest.out
        rw [hp2, if_neg (by decide)] at hre
        obtain rfl := Option.some.inj hre
        subst hout
        clear hre HRest
        obtain ⟨k0, k1, k2, k3, k4, k5, k6, k7⟩ := cells8 HX7.out
        have f0 := Lib.frozen_of_heap HX7.out 0
        have f1 := Lib.frozen_of_heap HX7.out 1
        have f2 := Lib.frozen_of_heap HX7.out 2
        have f3 := Lib.frozen_of_heap HX7.out 3
        have f4 := Lib.frozen_of_heap HX7.out 4
        have f5 := Lib.frozen_of_heap HX7.out 5
        have f6 := Lib.frozen_of_heap HX7.out 6
        have f7 := Lib.frozen_of_heap HX7.out 7
        go_wp2_with (fail)
        refine bodyPost_ret (results_ct rfl _ _ w.heap.size 26 #[.int .i64 0, .int .i64 0, .int .i64 0, .int .i64 0, .int .i64 0, .string ⟨#[]⟩, .complex .f64 0 0, .slice none 0 0] (0, 0) _ rfl ?hc Tryz.underlying26 rfl (by kernel_rfl)) rfl ?_
        case hc => exact eight_set HX7.out
        exact ⟨none, 0, by rw [evV_0]; rfl, R_ev0 _ _, below_sets HB7.out (Nat.le_refl _) _ _ _ _ _ _ _ _⟩
    · obtain rfl : j = lt.size := by omega
      have hnx := fun (ty : TypeId) => Lib.run_next_end_at (P := Tryz.prog) wr gi lt lt.size ty hit hlt
      have hre := HRj.out
      rw [List.drop_of_length_le (by simp), readL] at hre
      obtain rfl := Option.some.inj hre
      obtain ⟨v, q1, q2, q3⟩ := HNj.out.1
      obtain ⟨A, c, rfl, hc, hC⟩ := Kd.R_reads q1
      have HC := Aside0.mk q1
      have HX := Aside0.mk HNj.out.2.1
      have HB := Aside0.mk HNj.out.2.2.1
      obtain ⟨k0, k1, k2, k3, k4, k5, k6, k7⟩ := cells8 HX.out
      obtain ⟨e0, e1, e2, e3, e4, e5, e6, e7⟩ := cells8 q2
      have f0 := Lib.frozen_of_heap HX.out 0
      have f1 := Lib.frozen_of_heap HX.out 1
      have f2 := Lib.frozen_of_heap HX.out 2
      have f3 := Lib.frozen_of_heap HX.out 3
      have f4 := Lib.frozen_of_heap HX.out 4
      have f5 := Lib.frozen_of_heap HX.out 5
      have f6 := Lib.frozen_of_heap HX.out 6
      have f7 := Lib.frozen_of_heap HX.out 7
      clear HNj hit hre HRj q1 q2 q3 hC hc
      go_wp2_with (first | rw [hnx])
      refine bodyPost_ret (results_ct rfl _ _ w.heap.size 26 #[.int .i64 e.k, .int .i64 e.a, .int .i64 e.b, .int .i64 e.n, .int .i64 e.m, .string e.s, .complex .f64 (fl e.x) (fl e.y), .slice A e.d.length c] (0, 0) _ rfl ?hc Tryz.underlying26 rfl (by kernel_rfl)) rfl ?_
      case hc => exact eight_set HX.out
      subst hout
      exact ⟨A, c, rfl, R_sets HC.out hgi _ _ _ _ _ _ _ _, below_sets HB.out (Nat.le_refl _) _ _ _ _ _ _ _ _⟩
end Go.Proofs.YtndgaeldndgioaaGreatDoor.QAll
end

section
/- script.Right and script.Print of an event that read has told, walked by hand. -/
set_option linter.unusedVariables false
set_option linter.unusedSimpArgs false
namespace Go.Proofs.YtndgaeldndgioaaGreatDoor.QAll
open Go.RowKit Go.Proofs.YtndgaeldndgioaaGreatDoorW.PrintWords Go.Proofs.YtndgaeldndgioaaGreatDoorW.PrintLast Go.Proofs.YtndgaeldndgioaaGreatDoorW.PrintMore
open Go.Proofs.YtndgaeldndgioaaGreatDoor.Fl
attribute [local go_sem] run_store_complex
/-- What the walks ask: the event's own line, and that the line is read as the event. -/
structure Told (e : Ev) (k : Nat) (ln : ByteArray) (ok : Bool) : Prop where
  k0 : 0 < k
  k12 : k < 12
  ek : e.k = k
  good : EvOk e
  line : ∃ res, lineL e (lettersOf k).data.toList [nameOf k] = some res ∧ lineR res = some (ln, ok)
  back : ok = true → ∃ l0 ws K, ln.size ≤ 1000000 ∧ splitS ln ⟨#[32]⟩ = l0 :: ws ∧ script_kindOf.f K l0 = some (k : Int) ∧ readG k ws = some (e, true)
/-- The block of an event that lies in memory, and its draws. -/
structure BX (w0 : World) (g : Nat) (e : Ev) (A : Option Addr) (c : Nat) (W : World) : Prop where
  b : Below w0.heap.size w0 W
  h : W.heap[g]? = some (.cells #[.int .i64 e.k, .int .i64 e.a, .int .i64 e.b, .int .i64 e.n, .int .i64 e.m, .string e.s, .complex .f64 (fl e.x) (fl e.y), .slice A e.d.length c] 26 (0, 0))
  d : (Kd.int .u8).C W A e.d.length e.d
  l : g < W.heap.size
theorem BX_below {w0 W W' : World} {g : Nat} {e : Ev} {A : Option Addr} {c : Nat} (h : BX w0 g e A c W) (hb : Below W.heap.size W W') : BX w0 g e A c W' :=
  ⟨below_then h.b h.b.size hb, (hb.block _ h.l).trans h.h, Kd.C_below h.d hb, Nat.lt_of_lt_of_le h.l hb.size⟩
theorem BX_alloc {w0 W : World} {g : Nat} {e : Ev} {A : Option Addr} {c : Nat} (h : BX w0 g e A c W) (o : Obj) : BX w0 g e A c (W.alloc o) :=
  BX_below h ((Below.refl _ _).alloc (Nat.le_refl _) o)
set_option maxHeartbeats 8000000 in
set_option maxRecDepth 100000 in
theorem right_told (e : Ev) (k : Nat) (ln : ByteArray) (ok : Bool) (A : Option Addr) (c : Nat) (w : World) (hE : EnvW w) (hT : Told e k ln ok) (hd : (Kd.int .u8).C w A e.d.length e.d) :
    Calls Tryz.prog 47 #[evV e A c] w fun r w' => r = .returned (.bool ok) ∧ Below w.heap.size w w' := by
  have HT := Aside0.mk hT
  have HE := Aside0.mk hE
  obtain ⟨res, hl1, hl2⟩ := HT.out.line
  have HL := Aside0.mk (fun (W : World) (h : BX w w.heap.size e A c W) => line_calls e A c k hT.k0 hT.k12 hT.ek res ln ok W (hE.below h.b) hT.good h.d hl1 hl2)
  have HB := Aside0.mk (show BX w w.heap.size e A c (w.alloc (.cells #[.int .i64 e.k, .int .i64 e.a, .int .i64 e.b, .int .i64 e.n, .int .i64 e.m, .string e.s, .complex .f64 (fl e.x) (fl e.y), .slice A e.d.length c] 26 (0, 0))) from ⟨(Below.refl _ _).alloc (Nat.le_refl _) _, heap_alloc_new w _, Kd.C_alloc hd _, by simp⟩)
  clear hT hd hE hl1 hl2
  unfold evV at HL ⊢
  go_enter Tryz.func47, Tryz.ntmps47
  go_wp2_with (fail)
  (with_reducible refine (HL.out _ HB.out).mono ?_)
  rintro r w2 ⟨rfl, hb2⟩
  have HB2 := Aside0.mk (BX_below HB.out hb2)
  clear HB hb2
  cases ok with
  | false =>
    go_wp2_with (fail)
    go_ret
    exact ⟨rfl, HB2.out.b⟩
  | true =>
    obtain ⟨l0, ws, K, hz, hsp, hko, hrg⟩ := HT.out.back rfl
    go_wp2_with (fail)
    (with_reducible refine (read_core ln l0 ws K k (e, true) w2 (HE.out.below HB2.out.b) hz hsp hko HT.out.k12 hrg).mono ?_)
    rintro r w3 ⟨A', c', rfl, hC', hb3⟩
    have HB3 := Aside0.mk (BX_below HB2.out hb3)
    have HC3 := Aside0.mk (Kd.R_reads' hC').2.2
    clear HB2 hb3 hC'
    unfold evV
    have HB4 := Aside0.mk (BX_alloc HB3.out (.cells #[.int .i64 e.k, .int .i64 e.a, .int .i64 e.b, .int .i64 e.n, .int .i64 e.m, .string e.s, .complex .f64 (fl e.x) (fl e.y), .slice A' e.d.length c'] 26 (0, 0)))
    have hS := same_calls e A' A c' c (w3.alloc (.cells #[.int .i64 e.k, .int .i64 e.a, .int .i64 e.b, .int .i64 e.n, .int .i64 e.m, .string e.s, .complex .f64 (fl e.x) (fl e.y), .slice A' e.d.length c'] 26 (0, 0))) HT.out.good.inr (Kd.C_alloc HC3.out _) HB4.out.d
    unfold evV at hS
    have HS := Aside0.mk hS
    clear hS
    obtain ⟨k0, k1, k2, k3, k4, k5, k6, k7⟩ := cells8 HB4.out.h
    go_wp2_with (fail)
    (with_reducible refine HS.out.mono ?_)
    rintro r w5 ⟨rfl, hb5⟩
    have HB5 := Aside0.mk (BX_below HB4.out hb5)
    go_wp2_with (fail)
    go_ret
    exact ⟨rfl, HB5.out.b⟩
set_option maxHeartbeats 8000000 in
set_option maxRecDepth 100000 in
theorem print_told (e : Ev) (k : Nat) (ln : ByteArray) (ok : Bool) (A : Option Addr) (c : Nat) (w : World) (hE : EnvW w) (hT : Told e k ln ok) (hd : (Kd.int .u8).C w A e.d.length e.d) :
    Calls Tryz.prog 15 #[evV e A c] w fun r w' => r = .returned (.string (if ok = true then ln else ⟨#[]⟩)) ∧ Below w.heap.size w w' := by
  have HT := Aside0.mk hT
  obtain ⟨res, hl1, hl2⟩ := HT.out.line
  have HL := Aside0.mk (fun (W : World) (h : BX w w.heap.size e A c W) => line_calls e A c k hT.k0 hT.k12 hT.ek res ln ok W (hE.below h.b) hT.good h.d hl1 hl2)
  have HR := Aside0.mk (fun (W : World) (h : BX w w.heap.size e A c W) => right_told e k ln ok A c W (hE.below h.b) hT h.d)
  have HB := Aside0.mk (show BX w w.heap.size e A c (w.alloc (.cells #[.int .i64 e.k, .int .i64 e.a, .int .i64 e.b, .int .i64 e.n, .int .i64 e.m, .string e.s, .complex .f64 (fl e.x) (fl e.y), .slice A e.d.length c] 26 (0, 0))) from ⟨(Below.refl _ _).alloc (Nat.le_refl _) _, heap_alloc_new w _, Kd.C_alloc hd _, by simp⟩)
  clear hT hd hE hl1 hl2
  unfold evV at HL HR ⊢
  go_enter Tryz.func15, Tryz.ntmps15
  go_wp2_with (fail)
  (with_reducible refine (HR.out _ HB.out).mono ?_)
  rintro r w2 ⟨rfl, hb2⟩
  have HB2 := Aside0.mk (BX_below HB.out hb2)
  clear HB hb2
  cases ok with
  | false =>
    go_wp2_with (fail)
    go_ret
    exact ⟨rfl, HB2.out.b⟩
  | true =>
    obtain ⟨k0, k1, k2, k3, k4, k5, k6, k7⟩ := cells8 HB2.out.h
    go_wp2_with (fail)
    (with_reducible refine (HL.out _ HB2.out).mono ?_)
    rintro r w3 ⟨rfl, hb3⟩
    have HB3 := Aside0.mk (BX_below HB2.out hb3)
    go_wp2_with (fail)
    go_ret
    exact ⟨rfl, HB3.out.b⟩
end Go.Proofs.YtndgaeldndgioaaGreatDoor.QAll
end

section
/- What script.set and script.word make of each other's words, plainly. -/
set_option linter.unusedVariables false
set_option linter.unusedSimpArgs false
set_option maxHeartbeats 1000000
namespace Go.Proofs.YtndgaeldndgioaaGreatDoor.Pure
open Go.RowKit Go.Proofs.YtndgaeldndgioaaGreatDoor.QAll Go.Proofs.YtndgaeldndgioaaGreatDoorW.PrintWords Go.Proofs.YtndgaeldndgioaaGreatDoorW.PrintLast
theorem pre_app (c : UInt8) (t : ByteArray) (h : t.size ≤ 1000000) : stringslite_HasPrefix.f ((⟨#[c]⟩ : ByteArray) ++ t) ⟨#[c]⟩ = some true := by
  have h1 : (⟨#[c]⟩ : ByteArray).size = 1 := rfl
  unfold stringslite_HasPrefix.f
  rw [ByteArray.size_append, h1, if_pos (by omega), if_pos (by omega), if_pos (by omega)]
  congr 1
  rw [beq_iff_eq, toList_ext, toList_app, Go.ByteArray.toList_eq, Go.ByteArray.toList_eq]
  rfl
theorem ext_app (c : UInt8) (t : ByteArray) : ((⟨#[c]⟩ : ByteArray) ++ t).extract 1 ((⟨#[c]⟩ : ByteArray) ++ t).size = t := by
  apply ba_eq
  rw [toList_ext, ← len_eq, List.take_length, toList_app, Go.ByteArray.toList_eq ⟨#[c]⟩]
  rfl
theorem trim_app (c : UInt8) (t : ByteArray) (h : t.size ≤ 1000000) : strings_TrimPrefix.f ((⟨#[c]⟩ : ByteArray) ++ t) ⟨#[c]⟩ = some t := by
  have h1 : (⟨#[c]⟩ : ByteArray).size = 1 := rfl
  unfold strings_TrimPrefix.f stringslite_TrimPrefix.f
  rw [pre_app c t h]
  simp only [Option.bind_some]
  rw [if_pos trivial, h1, if_pos (by omega), if_pos (by rw [ByteArray.size_append, h1]; omega)]
  show some (((⟨#[c]⟩ : ByteArray) ++ t).extract 1 _) = _
  rw [ext_app]
theorem has_app (c : UInt8) (t : ByteArray) (h : t.size ≤ 1000000) : strings_HasPrefix.f ((⟨#[c]⟩ : ByteArray) ++ t) ⟨#[c]⟩ = some true := by
  unfold strings_HasPrefix.f
  rw [pre_app c t h]
  rfl
theorem cut_app (c : UInt8) (t : ByteArray) (h : t.size ≤ 1000000) : strings_CutPrefix.f ((⟨#[c]⟩ : ByteArray) ++ t) ⟨#[c]⟩ = some (t, true) := by
  have h1 : (⟨#[c]⟩ : ByteArray).size = 1 := rfl
  unfold strings_CutPrefix.f stringslite_CutPrefix.f
  rw [pre_app c t h]
  simp only [Option.bind_some]
  rw [if_pos trivial, h1, if_pos (by omega), if_pos (by rw [ByteArray.size_append, h1]; omega)]
  show (some (((⟨#[c]⟩ : ByteArray) ++ t).extract 1 _, true)).bind _ = _
  rw [ext_app]
  rfl
theorem pre_some (a : ByteArray) (c : UInt8) : ∃ b, stringslite_HasPrefix.f a ⟨#[c]⟩ = some b := by
  have h1 : (⟨#[c]⟩ : ByteArray).size = 1 := rfl
  unfold stringslite_HasPrefix.f
  rw [h1]
  split
  · rw [if_pos (by omega)]; try rw [if_pos (by omega)]
    exact ⟨_, rfl⟩
  · exact ⟨_, rfl⟩
theorem trim_some (a : ByteArray) (c : UInt8) : ∃ t, strings_TrimPrefix.f a ⟨#[c]⟩ = some t ∧ t.size ≤ a.size := by
  have h1 : (⟨#[c]⟩ : ByteArray).size = 1 := rfl
  obtain ⟨b, hb⟩ := pre_some a c
  unfold strings_TrimPrefix.f stringslite_TrimPrefix.f
  rw [hb]
  simp only [Option.bind_some]
  cases b with
  | true =>
    have hz : 1 ≤ a.size := by
      by_cases hz : 1 ≤ a.size
      · exact hz
      · unfold stringslite_HasPrefix.f at hb
        rw [h1, if_neg (by omega)] at hb
        cases hb
    rw [if_pos rfl, h1, if_pos (by omega), if_pos (by omega)]
    exact ⟨_, rfl, by rw [ByteArray.size_extract]; omega⟩
  | false => exact ⟨_, rfl, Nat.le_refl _⟩
theorem has_some (a : ByteArray) (c : UInt8) : ∃ b, strings_HasPrefix.f a ⟨#[c]⟩ = some b := by
  obtain ⟨b, hb⟩ := pre_some a c
  unfold strings_HasPrefix.f
  rw [hb]
  exact ⟨_, rfl⟩
theorem cut_some (a : ByteArray) (c : UInt8) : ∃ t b, strings_CutPrefix.f a ⟨#[c]⟩ = some (t, b) ∧ t.size ≤ a.size := by
  have h1 : (⟨#[c]⟩ : ByteArray).size = 1 := rfl
  obtain ⟨b, hb⟩ := pre_some a c
  unfold strings_CutPrefix.f stringslite_CutPrefix.f
  rw [hb]
  simp only [Option.bind_some]
  cases b with
  | true =>
    have hz : 1 ≤ a.size := by
      by_cases hz : 1 ≤ a.size
      · exact hz
      · unfold stringslite_HasPrefix.f at hb
        rw [h1, if_neg (by omega)] at hb
        cases hb
    rw [if_pos rfl, h1, if_pos (by omega), if_pos (by omega)]
    exact ⟨_, _, rfl, by rw [ByteArray.size_extract]; omega⟩
  | false => exact ⟨_, _, rfl, Nat.le_refl _⟩
structure Inv (M : Nat) (e : Ev) : Prop where
  a : -9999 ≤ e.a ∧ e.a ≤ 9999
  b : -9999 ≤ e.b ∧ e.b ≤ 9999
  n : -9999 ≤ e.n ∧ e.n ≤ 9999
  m : -9999 ≤ e.m ∧ e.m ≤ 9999
  x : -9999 ≤ e.x ∧ e.x ≤ 9999
  y : -9999 ≤ e.y ∧ e.y ≤ 9999
  s : e.s.size ≤ 2000
  d : ∀ z ∈ e.d, 0 ≤ z ∧ z ≤ 255
  l : e.d.length ≤ M
/-- What one word changes. -/
structure Same (c : Int) (e e' : Ev) : Prop where
  k : e'.k = e.k
  a : c ≠ 65 → e'.a = e.a
  b : c ≠ 66 → e'.b = e.b
  n : c ≠ 78 → e'.n = e.n
  m : c ≠ 77 → e'.m = e.m
  x : c ≠ 88 → e'.x = e.x
  y : c ≠ 89 → e'.y = e.y
  s : c ≠ 83 → e'.s = e.s
  d : c ≠ 68 → e'.d = e.d
theorem Same.refl (c : Int) (e : Ev) : Same c e e := ⟨rfl, fun _ => rfl, fun _ => rfl, fun _ => rfl, fun _ => rfl, fun _ => rfl, fun _ => rfl, fun _ => rfl, fun _ => rfl⟩
theorem Inv.le {M M' : Nat} {e : Ev} (h : Inv M e) (hM : M ≤ M') : Inv M' e := ⟨h.a, h.b, h.n, h.m, h.x, h.y, h.s, h.d, Nat.le_trans h.l hM⟩
def isLet (c : Int) : Prop := c = 83 ∨ c = 68 ∨ c = 88 ∨ c = 89 ∨ c = 65 ∨ c = 66 ∨ c = 78 ∨ c = 77
theorem setNum_some (e : Ev) (c v : Int) (hc : isLet c) (h1 : c ≠ 83) (h2 : c ≠ 68) (M : Nat) (hi : Inv M e) (h0 : -9999 ≤ v ∧ v ≤ 9999) : ∃ e', setNum e c v = some e' ∧ Inv M e' ∧ Same c e e' := by
  unfold setNum
  rcases hc with rfl | rfl | rfl | rfl | rfl | rfl | rfl | rfl
  · exact absurd rfl h1
  · exact absurd rfl h2
  · exact ⟨_, rfl, ⟨hi.a, hi.b, hi.n, hi.m, h0, hi.y, hi.s, hi.d, hi.l⟩, ⟨rfl, fun _ => rfl, fun _ => rfl, fun _ => rfl, fun _ => rfl, fun h => absurd rfl h, fun _ => rfl, fun _ => rfl, fun _ => rfl⟩⟩
  · exact ⟨_, rfl, ⟨hi.a, hi.b, hi.n, hi.m, hi.x, h0, hi.s, hi.d, hi.l⟩, ⟨rfl, fun _ => rfl, fun _ => rfl, fun _ => rfl, fun _ => rfl, fun _ => rfl, fun h => absurd rfl h, fun _ => rfl, fun _ => rfl⟩⟩
  · exact ⟨_, rfl, ⟨h0, hi.b, hi.n, hi.m, hi.x, hi.y, hi.s, hi.d, hi.l⟩, ⟨rfl, fun h => absurd rfl h, fun _ => rfl, fun _ => rfl, fun _ => rfl, fun _ => rfl, fun _ => rfl, fun _ => rfl, fun _ => rfl⟩⟩
  · exact ⟨_, rfl, ⟨hi.a, h0, hi.n, hi.m, hi.x, hi.y, hi.s, hi.d, hi.l⟩, ⟨rfl, fun _ => rfl, fun h => absurd rfl h, fun _ => rfl, fun _ => rfl, fun _ => rfl, fun _ => rfl, fun _ => rfl, fun _ => rfl⟩⟩
  · exact ⟨_, rfl, ⟨hi.a, hi.b, h0, hi.m, hi.x, hi.y, hi.s, hi.d, hi.l⟩, ⟨rfl, fun _ => rfl, fun _ => rfl, fun h => absurd rfl h, fun _ => rfl, fun _ => rfl, fun _ => rfl, fun _ => rfl, fun _ => rfl⟩⟩
  · exact ⟨_, rfl, ⟨hi.a, hi.b, hi.n, h0, hi.x, hi.y, hi.s, hi.d, hi.l⟩, ⟨rfl, fun _ => rfl, fun _ => rfl, fun _ => rfl, fun h => absurd rfl h, fun _ => rfl, fun _ => rfl, fun _ => rfl, fun _ => rfl⟩⟩
/-- set tells something of any word; what it sets stays in bounds. -/
theorem setC_some (e : Ev) (c : Int) (wd : ByteArray) (M : Nat) (hM : M ≤ 90000) (hc : isLet c) (hi : Inv M e) (hw : wd.size ≤ 2000) : ∃ e' ok, setC e c wd = some (e', ok) ∧ Inv (M + 2000) e' ∧ Same c e e' := by
  have hl := hi.l
  unfold setC
  rw [if_neg (by omega)]
  by_cases h1 : c = 83
  · subst h1
    rw [if_pos rfl]
    obtain ⟨t0, h0, hz⟩ := trim_some wd 61
    obtain ⟨r, b, ht, hr⟩ := texts_some t0 (by omega) t0.size (t0.size + 2) 0 [] (by omega) (by omega) (by omega) (by simp)
    obtain ⟨p, hp⟩ := has_some wd 61
    have ht' : script_texts.f (t0.size + 2) t0 = some (r, b) := ht
    rw [h0, Option.bind_some, ht', Option.bind_some, hp]
    exact ⟨_, _, rfl, ⟨hi.a, hi.b, hi.n, hi.m, hi.x, hi.y, by show r.size ≤ 2000; omega, hi.d, by show e.d.length ≤ _; omega⟩, ⟨rfl, fun _ => rfl, fun _ => rfl, fun _ => rfl, fun _ => rfl, fun _ => rfl, fun _ => rfl, fun h => absurd rfl h, fun _ => rfl⟩⟩
  · rw [if_neg h1]
    by_cases h2 : c = 68
    · subst h2
      rw [if_pos rfl]
      obtain ⟨t, b, ht, hz⟩ := cut_some wd 35
      rw [ht]
      simp only [Option.bind_some]
      cases b with
      | false => exact ⟨_, _, rfl, hi.le (by omega), Same.refl _ _⟩
      | true =>
        rw [if_pos rfl]
        by_cases ho : t.size % 2 = 1
        · rw [if_pos ho]
          exact ⟨_, _, rfl, hi.le (by omega), Same.refl _ _⟩
        · rw [if_neg ho, if_pos (by omega)]
          obtain ⟨r, b, hr, q1, q2, q3⟩ := draws_some (t.size + 2) t e.d (by omega) (by omega)
          rw [hr]
          exact ⟨_, _, rfl, ⟨hi.a, hi.b, hi.n, hi.m, hi.x, hi.y, hi.s, q3 hi.d, by show r.length ≤ _; omega⟩, ⟨rfl, fun _ => rfl, fun _ => rfl, fun _ => rfl, fun _ => rfl, fun _ => rfl, fun _ => rfl, fun _ => rfl, fun h => absurd rfl h⟩⟩
    · rw [if_neg h2]
      cases ha : atoiV wd with
      | none => exact ⟨_, _, rfl, hi.le (by omega), Same.refl _ _⟩
      | some v =>
        simp only
        by_cases hv : -9999 ≤ v ∧ v ≤ 9999
        · rw [if_pos hv]
          obtain ⟨e', he, h3, h4⟩ := setNum_some e c v hc h1 h2 M hi hv
          rw [he]
          exact ⟨_, _, rfl, h3.le (by omega), h4⟩
        · rw [if_neg hv]
          exact ⟨_, _, rfl, hi.le (by omega), Same.refl _ _⟩
theorem set_numW (e : Ev) (c v : Int) (e' : Ev) (M : Nat) (hM : M ≤ 90000) (hi : Inv M e) (h1 : c ≠ 83) (h2 : c ≠ 68) (h0 : -9999 ≤ v ∧ v ≤ 9999) (hn : setNum e c v = some e') : setC e c (itoaB v) = some (e', true) := by
  have hl := hi.l
  have hz := num_size v h0.1 h0.2
  unfold setC
  rw [if_neg (by omega), if_neg h1, if_neg h2, num_atoi v h0.1 h0.2]
  simp only
  rw [if_pos h0, hn]
  rfl
theorem esc_size (s : ByteArray) : (escS s).size ≤ 3 * s.size := by
  have hl := escL_le s s.size (Nat.le_refl _)
  have hz : (escS s).size = (escL s s.size).length := by rw [← len_eq, Go.ByteArray.toList_eq]; rfl
  omega
theorem esc_len (s : ByteArray) : s.size ≤ (escS s).size := by
  have h : ∀ l : List Int, l.length ≤ (l.flatMap escC).length := by
    intro l
    induction l with
    | nil => simp
    | cons c l ih =>
      rw [List.flatMap_cons, List.length_append, List.length_cons]
      have : 1 ≤ (escC c).length := by
        unfold escC
        split <;> simp
      omega
  have := h (bytesOf s)
  rw [← esc_list, bytesOf_length, len_eq] at this
  exact this
theorem texts_esc' (s : ByteArray) (hs : s.size ≤ 100000) : script_texts.f ((escS s).size + 2) (escS s) = some (s, true) := texts_esc s hs _ (by have := esc_len s; omega)
theorem set_txtW (e : Ev) (s : ByteArray) (M : Nat) (hM : M ≤ 90000) (hi : Inv M e) (hs : s.size ≤ 2000) : setC e 83 (⟨#[61]⟩ ++ escS s) = some ({ e with s := s }, true) := by
  have hl := hi.l
  have h1 : (⟨#[61]⟩ : ByteArray).size = 1 := rfl
  have hz := esc_size s
  unfold setC
  rw [if_neg (by rw [ByteArray.size_append, h1]; omega), if_pos rfl, trim_app 61 (escS s) (by omega), Option.bind_some, texts_esc' s (by omega), Option.bind_some, has_app 61 (escS s) (by omega)]
  rfl
theorem set_drwW (e : Ev) (d : List Int) (M : Nat) (hM : M ≤ 90000) (hi : Inv M e) (hd : ∀ z ∈ d, 0 ≤ z ∧ z ≤ 255) (hl2 : d.length ≤ 16) (h0 : e.d = []) : setC e 68 (⟨#[35]⟩ ++ hexD d) = some ({ e with d := d }, true) := by
  have hl := hi.l
  have h1 : (⟨#[35]⟩ : ByteArray).size = 1 := rfl
  have hz := hexD_size d hd
  unfold setC
  rw [if_neg (by rw [ByteArray.size_append, h1]; omega), if_neg (by decide), if_pos rfl, cut_app 35 (hexD d) (by omega)]
  simp only [Option.bind_some]
  rw [if_pos trivial, if_neg (by omega), if_pos (by omega), draws_all d _ e.d hd (by omega), h0]
  rfl
end Go.Proofs.YtndgaeldndgioaaGreatDoor.Pure
end

section
/- Lines and events of the program, plainly: which lines script.read takes, and what script.line writes. -/
set_option linter.unusedVariables false
set_option linter.unusedSimpArgs false
set_option maxHeartbeats 1000000
namespace Go.Proofs.YtndgaeldndgioaaGreatDoor.Pure
open Go.RowKit Go.Proofs.YtndgaeldndgioaaGreatDoor.QAll Go.Proofs.YtndgaeldndgioaaGreatDoorW.PrintWords Go.Proofs.YtndgaeldndgioaaGreatDoorW.PrintLast
theorem lets_all : ∀ k : Nat, k < 12 → ∀ c ∈ (lettL.getD k []), isLet (c.toNat : Int)
  | 0, _ => by unfold isLet; decide | 1, _ => by unfold isLet; decide | 2, _ => by unfold isLet; decide | 3, _ => by unfold isLet; decide | 4, _ => by unfold isLet; decide | 5, _ => by unfold isLet; decide | 6, _ => by unfold isLet; decide | 7, _ => by unfold isLet; decide | 8, _ => by unfold isLet; decide | 9, _ => by unfold isLet; decide | 10, _ => by unfold isLet; decide | 11, _ => by unfold isLet; decide
  | k + 12, h => absurd h (by omega)
/-- What a list of words changes. -/
structure SameL (L : List UInt8) (e e' : Ev) : Prop where
  k : e'.k = e.k
  a : (65 : UInt8) ∉ L → e'.a = e.a
  b : (66 : UInt8) ∉ L → e'.b = e.b
  n : (78 : UInt8) ∉ L → e'.n = e.n
  m : (77 : UInt8) ∉ L → e'.m = e.m
  x : (88 : UInt8) ∉ L → e'.x = e.x
  y : (89 : UInt8) ∉ L → e'.y = e.y
  s : (83 : UInt8) ∉ L → e'.s = e.s
  d : (68 : UInt8) ∉ L → e'.d = e.d
theorem let_ne {c : UInt8} {L : List UInt8} (z : UInt8) (h : z ∉ c :: L) : (c.toNat : Int) ≠ (z.toNat : Int) := fun e => h (by
  have : c = z := UInt8.toNat_inj.1 (by omega)
  rw [this]
  exact List.mem_cons_self)
theorem SameL.step {c : UInt8} {L : List UInt8} {e e1 e2 : Ev} (h1 : Same (c.toNat : Int) e e1) (h2 : SameL L e1 e2) : SameL (c :: L) e e2 :=
  ⟨h2.k.trans h1.k, fun h => (h2.a (fun q => h (List.mem_cons_of_mem _ q))).trans (h1.a (let_ne 65 h)), fun h => (h2.b (fun q => h (List.mem_cons_of_mem _ q))).trans (h1.b (let_ne 66 h)),
    fun h => (h2.n (fun q => h (List.mem_cons_of_mem _ q))).trans (h1.n (let_ne 78 h)), fun h => (h2.m (fun q => h (List.mem_cons_of_mem _ q))).trans (h1.m (let_ne 77 h)),
    fun h => (h2.x (fun q => h (List.mem_cons_of_mem _ q))).trans (h1.x (let_ne 88 h)), fun h => (h2.y (fun q => h (List.mem_cons_of_mem _ q))).trans (h1.y (let_ne 89 h)),
    fun h => (h2.s (fun q => h (List.mem_cons_of_mem _ q))).trans (h1.s (let_ne 83 h)), fun h => (h2.d (fun q => h (List.mem_cons_of_mem _ q))).trans (h1.d (let_ne 68 h))⟩
theorem readL_some : ∀ (L : List UInt8) (ws : List ByteArray) (e : Ev) (M : Nat), (∀ c ∈ L, isLet (c.toNat : Int)) → L.length = ws.length → (∀ x ∈ ws, x.size ≤ 2000) → M + 2000 * L.length ≤ 90000 → Inv M e →
    ∃ r, readL L ws e = some r ∧ ∀ e', r = some e' → Inv (M + 2000 * L.length) e' ∧ SameL L e e'
  | [], [], e, M, _, _, _, _, hi => ⟨_, rfl, fun e' h => by
      obtain rfl := Option.some.inj h
      exact ⟨hi, ⟨rfl, fun _ => rfl, fun _ => rfl, fun _ => rfl, fun _ => rfl, fun _ => rfl, fun _ => rfl, fun _ => rfl, fun _ => rfl⟩⟩⟩
  | [], _ :: _, _, _, _, hl, _, _, _ => by simp at hl
  | _ :: _, [], _, _, _, hl, _, _, _ => by simp at hl
  | c :: L, wd :: ws, e, M, hc, hl, hw, hM, hi => by
    simp only [List.length_cons] at hl hM
    obtain ⟨e1, ok, h1, h2, h3⟩ := setC_some e (c.toNat : Int) wd M (by omega) (hc c (by simp)) hi (hw wd (by simp))
    rw [readL, h1]
    simp only [Option.bind_some]
    cases ok with
    | true =>
      rw [if_pos rfl]
      obtain ⟨r, hr, hq⟩ := readL_some L ws e1 (M + 2000) (fun x hx => hc x (by simp [hx])) (by omega) (fun x hx => hw x (by simp [hx])) (by omega) h2
      refine ⟨r, hr, fun e' he => ?_⟩
      obtain ⟨q1, q2⟩ := hq e' he
      exact ⟨q1.le (by simp only [List.length_cons]; omega), SameL.step h3 q2⟩
    | false => exact ⟨_, rfl, fun e' he => by cases he⟩
/-- An event of a kind: its parts in bounds, and those that have no word naught. -/
structure DE (e : Ev) (k : Nat) : Prop where
  k0 : 0 < k
  k12 : k < 12
  inv : Inv 90000 e
  same : SameL (lettL.getD k []) (ev0 k) e
theorem z9999 : (-9999 : Int) ≤ 0 ∧ (0 : Int) ≤ 9999 := by decide
theorem inv0' (k : Nat) : Inv 0 (ev0 k) := ⟨z9999, z9999, z9999, z9999, z9999, z9999, Nat.zero_le 2000, fun z hz => absurd hz (List.not_mem_nil), Nat.le_refl _⟩
theorem lett_len : ∀ k : Nat, k < 12 → (lettL.getD k []).length ≤ 4
  | 0, _ => by decide | 1, _ => by decide | 2, _ => by decide | 3, _ => by decide | 4, _ => by decide | 5, _ => by decide | 6, _ => by decide | 7, _ => by decide | 8, _ => by decide | 9, _ => by decide | 10, _ => by decide | 11, _ => by decide
  | k + 12, h => absurd h (by omega)
theorem lett_sz (k : Nat) : (lettersOf k).size = (lettL.getD k []).length := by
  rw [← len_eq, Go.ByteArray.toList_eq]
  rfl
theorem readG_some (k : Nat) (hk : k < 12) (ws : List ByteArray) (hw : ∀ x ∈ ws, x.size ≤ 2000) : readG k ws = some (ev0 0, false) ∨ ∃ e, readG k ws = some (e, true) ∧ DE e k := by
  unfold readG
  by_cases hz : (lettersOf k).size = 0 ∨ (lettersOf k).size ≠ ws.length
  · rw [if_pos hz]
    exact Or.inl rfl
  · rw [if_neg hz]
    have h4 := lett_len k hk
    have hs := lett_sz k
    obtain ⟨r, hr, hq⟩ := readL_some (lettL.getD k []) ws (ev0 k) 0 (lets_all k hk) (by omega) hw (by omega) (inv0' k)
    have e : (lettersOf k).data.toList = lettL.getD k [] := rfl
    rw [e, hr]
    cases r with
    | none => exact Or.inl rfl
    | some e' =>
      obtain ⟨q1, q2⟩ := hq e' rfl
      refine Or.inr ⟨e', rfl, ?_, hk, q1.le (by omega), q2⟩
      have : k ≠ 0 := fun h => by subst h; exact absurd hs (by rw [show (lettL.getD 0 []).length = 0 from rfl]; omega)
      omega
def wordE (e : Ev) (c : UInt8) : ByteArray × Bool := match wordC e (c.toNat : Int) with
  | some p => p
  | none => (⟨#[]⟩, false)
theorem wordC_eq (e : Ev) (c : UInt8) (hc : isLet (c.toNat : Int)) : wordC e (c.toNat : Int) = some (wordE e c) := by
  unfold wordE
  have : ∃ p, wordC e (c.toNat : Int) = some p := by
    unfold wordC
    rcases hc with h | h | h | h | h | h | h | h <;> rw [h] <;> exact ⟨_, rfl⟩
  obtain ⟨p, hp⟩ := this
  rw [hp]
theorem lineL_eq (e : Ev) : ∀ (L : List UInt8) (acc : List ByteArray), (∀ c ∈ L, isLet (c.toNat : Int)) → lineL e L acc = some (if L.all (fun c => (wordE e c).2) = true then some (acc ++ L.map fun c => (wordE e c).1) else none)
  | [], acc, _ => by simp [lineL]
  | c :: L, acc, hc => by
    rw [lineL, wordC_eq e c (hc c (by simp))]
    simp only [Option.bind_some]
    cases h : (wordE e c).2 with
    | true =>
      rw [if_pos rfl, lineL_eq e L _ (fun x hx => hc x (by simp [hx]))]
      simp [h]
    | false =>
      rw [if_neg (by decide)]
      simp [h]
def okE (e : Ev) (k : Nat) : Bool := (lettL.getD k []).all fun c => (wordE e c).2
def wsE (e : Ev) (k : Nat) : List ByteArray := (lettL.getD k []).map fun c => (wordE e c).1
def lnE (e : Ev) (k : Nat) : ByteArray := joinS (nameOf k :: wsE e k) ⟨#[32]⟩
theorem lineL_of (e : Ev) (k : Nat) (hk : k < 12) : lineL e (lettersOf k).data.toList [nameOf k] = some (if okE e k = true then some (nameOf k :: wsE e k) else none) := lineL_eq e (lettL.getD k []) [nameOf k] (lets_all k hk)
theorem two_blank_all : ((List.range 256).all fun a => (twoS (a : Int)).data.toList.all fun b => decide (b ≠ 32)) = true := by kernel_rfl
theorem two_blank (c : Int) (h : 0 ≤ c ∧ c ≤ 255) : ∀ b ∈ (twoS c).data.toList, b ≠ 32 := by
  obtain ⟨a, rfl⟩ := Int.eq_ofNat_of_zero_le h.1
  intro b hb
  exact of_decide_eq_true (List.all_eq_true.1 (List.all_eq_true.1 two_blank_all a (List.mem_range.2 (by omega))) b hb)
theorem esc_blank (c : Int) (h : 0 ≤ c ∧ c ≤ 255) : ∀ b ∈ escC c, b ≠ 32 := by
  unfold escC
  split
  · rename_i hp
    intro b hb
    rw [List.mem_singleton] at hb
    subst hb
    intro e
    have := congrArg UInt8.toNat e
    have := byte_back c h.1 h.2
    have h32 : (32 : UInt8).toNat = 32 := rfl
    omega
  · intro b hb
    rcases List.mem_cons.1 hb with rfl | hb
    · decide
    · exact two_blank c h b hb
theorem fits_t {v : Int} (h : -9999 ≤ v ∧ v ≤ 9999) : fitsB v = true := by
  unfold fitsB
  rw [decide_eq_true h.1, decide_eq_true h.2]
  rfl
theorem word_len (e : Ev) (c : UInt8) (hi : Inv 90000 e) (hc : isLet (c.toNat : Int)) : (wordE e c).1.size ≤ 190000 ∧ ∀ b ∈ (wordE e c).1.toList, b ≠ 32 := by
  have hn : ∀ v : Int, (-9999 ≤ v ∧ v ≤ 9999) → (itoaB v).size ≤ 190000 ∧ ∀ b ∈ (itoaB v).toList, b ≠ 32 := fun v hv => ⟨by have := num_size v hv.1 hv.2; omega, num_blank v hv.1 hv.2⟩
  have h := wordC_eq e c hc
  unfold wordC at h
  rcases hc with q | q | q | q | q | q | q | q <;> rw [q] at h
  · rw [if_pos rfl] at h
    rw [← Option.some.inj h]
    have hz := esc_size e.s
    have hs := hi.s
    refine ⟨by show ((⟨#[61]⟩ : ByteArray) ++ escS e.s).size ≤ _; rw [ByteArray.size_append, show (⟨#[61]⟩ : ByteArray).size = 1 from rfl]; omega, fun b hb => ?_⟩
    have hb' : b ∈ ((⟨#[61]⟩ : ByteArray) ++ escS e.s).toList := hb
    rw [toList_app, esc_list] at hb'
    rcases List.mem_append.1 hb' with hb | hb
    · have : b ∈ [(61 : UInt8)] := by rw [Go.ByteArray.toList_eq] at hb; exact hb
      rw [List.mem_singleton] at this
      subst this
      decide
    · obtain ⟨z, hz, hb⟩ := List.mem_flatMap.1 hb
      exact esc_blank z (bytes_in _ z hz) b hb
  · rw [if_neg (by decide), if_pos rfl] at h
    rw [← Option.some.inj h]
    have hz := hexD_size e.d hi.d
    have hl := hi.l
    refine ⟨by show ((⟨#[35]⟩ : ByteArray) ++ hexD e.d).size ≤ _; rw [ByteArray.size_append, show (⟨#[35]⟩ : ByteArray).size = 1 from rfl]; omega, fun b hb => ?_⟩
    have hb' : b ∈ ((⟨#[35]⟩ : ByteArray) ++ hexD e.d).toList := hb
    rw [toList_app] at hb'
    rcases List.mem_append.1 hb' with hb | hb
    · have : b ∈ [(35 : UInt8)] := by rw [Go.ByteArray.toList_eq] at hb; exact hb
      rw [List.mem_singleton] at this
      subst this
      decide
    · have : b ∈ e.d.flatMap (fun c => (twoS c).data.toList) := by rw [Go.ByteArray.toList_eq] at hb; exact hb
      obtain ⟨z, hz, hb⟩ := List.mem_flatMap.1 this
      exact two_blank z (hi.d z hz) b hb
  · rw [if_neg (by decide), if_neg (by decide), if_pos rfl] at h
    rw [← Option.some.inj h]
    exact hn _ hi.x
  · rw [if_neg (by decide), if_neg (by decide), if_neg (by decide), if_pos rfl] at h
    rw [← Option.some.inj h]
    exact hn _ hi.y
  · rw [if_neg (by decide), if_neg (by decide), if_neg (by decide), if_neg (by decide), if_pos rfl] at h
    rw [← Option.some.inj h]
    exact hn _ hi.a
  · rw [if_neg (by decide), if_neg (by decide), if_neg (by decide), if_neg (by decide), if_neg (by decide), if_pos rfl] at h
    rw [← Option.some.inj h]
    exact hn _ hi.b
  · rw [if_neg (by decide), if_neg (by decide), if_neg (by decide), if_neg (by decide), if_neg (by decide), if_neg (by decide), if_pos rfl] at h
    rw [← Option.some.inj h]
    exact hn _ hi.n
  · rw [if_neg (by decide), if_neg (by decide), if_neg (by decide), if_neg (by decide), if_neg (by decide), if_neg (by decide), if_neg (by decide), if_pos rfl] at h
    rw [← Option.some.inj h]
    exact hn _ hi.m
end Go.Proofs.YtndgaeldndgioaaGreatDoor.Pure
end

section
/- script.Parse, walked by hand. -/
set_option linter.unusedVariables false
set_option linter.unusedSimpArgs false
namespace Go.Proofs.YtndgaeldndgioaaGreatDoor.QAll
open Go.RowKit Go.Proofs.YtndgaeldndgioaaGreatDoorW.PrintWords Go.Proofs.YtndgaeldndgioaaGreatDoorW.PrintLast Go.Proofs.YtndgaeldndgioaaGreatDoorW.PrintMore
open Go.Proofs.YtndgaeldndgioaaGreatDoor.Fl
attribute [local go_sem] run_store_complex
theorem evV_00 (A : Option Addr) (c : Nat) : evV (ev0 0) A c = .agg #[.int .i64 0, .int .i64 0, .int .i64 0, .int .i64 0, .int .i64 0, .string ⟨#[]⟩, .complex .f64 0 0, .slice A 0 c] := by
  unfold evV ev0
  simp only [fl_0]
  rfl
theorem heap_step_alloc {W : World} {i : Nat} {o : Obj} (h : W.heap[i]? = some o) (hlt : i < W.heap.size) (o' : Obj) : (W.alloc o').heap[i]? = some o := (Below.heap_alloc _ _ _ hlt).trans h
set_option maxHeartbeats 8000000 in
set_option maxRecDepth 100000 in
theorem parse_none (s l0 : ByteArray) (ws : List ByteArray) (K k : Nat) (w : World) (hE : EnvW w) (hs : s.size ≤ 1000000) (hsp : splitS s ⟨#[32]⟩ = l0 :: ws) (hk : script_kindOf.f K l0 = some (k : Int)) (hk12 : k < 12) (hr : readG k ws = some (ev0 0, false)) :
    Calls Tryz.prog 7 #[.string s] w fun r w' => ∃ A c, r = .returned (.tuple #[evV (ev0 0) A c, .int .i64 2]) ∧ (Kd.int .u8).R 5 w' w.heap.size (fun _ => True) (.slice A (ev0 0).d.length c) (ev0 0).d ∧ Below w.heap.size w w' := by
  have HE := Aside0.mk hE
  have HC := Aside0.mk (fun (W : World) (hb : Below w.heap.size w W) => read_core s l0 ws K k (ev0 0, false) W (hE.below hb) hs hsp hk hk12 hr)
  clear hE hsp hk hr
  simp only [evV_00] at HC
  go_enter Tryz.func7, Tryz.ntmps7
  go_wp2_with (fail)
  (with_reducible refine (HC.out _ ((Below.refl _ _).alloc (Nat.le_refl _) _)).mono ?_)
  rintro e w2 ⟨A, c, rfl, hR, hb2⟩
  have HX2 := Aside0.mk ((hb2.block w.heap.size (by simp)).trans (heap_alloc_new w _))
  have HB2 := Aside0.mk (below_step ((Below.refl w.heap.size w).alloc (Nat.le_refl _) _) hb2)
  have hlt : w.heap.size < w2.heap.size := Nat.lt_of_lt_of_le (by simp) hb2.size
  clear hb2 hR
  have HX3 := Aside0.mk (heap_step_alloc HX2.out hlt (.cells #[.int .i64 0, .int .i64 0, .int .i64 0, .int .i64 0, .int .i64 0, .string ⟨#[]⟩, .complex .f64 0 0, .slice A 0 c] 26 (0, 0)))
  have HB3 := Aside0.mk (below_alloc HB2.out (.cells #[.int .i64 0, .int .i64 0, .int .i64 0, .int .i64 0, .int .i64 0, .string ⟨#[]⟩, .complex .f64 0 0, .slice A 0 c] 26 (0, 0)))
  obtain ⟨w3, hw3⟩ : ∃ w3, w2.alloc (.cells #[.int .i64 0, .int .i64 0, .int .i64 0, .int .i64 0, .int .i64 0, .string ⟨#[]⟩, .complex .f64 0 0, .slice A 0 c] 26 (0, 0)) = w3 := ⟨_, rfl⟩
  rw [hw3] at HX3 HB3
  obtain ⟨k0, k1, k2, k3, k4, k5, k6, k7⟩ := cells8 HX3.out
  have f0 := Lib.frozen_of_heap HX3.out 0
  have f1 := Lib.frozen_of_heap HX3.out 1
  have f2 := Lib.frozen_of_heap HX3.out 2
  have f3 := Lib.frozen_of_heap HX3.out 3
  have f4 := Lib.frozen_of_heap HX3.out 4
  have f5 := Lib.frozen_of_heap HX3.out 5
  have f6 := Lib.frozen_of_heap HX3.out 6
  have f7 := Lib.frozen_of_heap HX3.out 7
  go_wp2_with (fail)
  refine bodyPost_ret (results_ct rfl _ _ w.heap.size 26 #[.int .i64 0, .int .i64 0, .int .i64 0, .int .i64 0, .int .i64 0, .string ⟨#[]⟩, .complex .f64 0 0, .slice none 0 0] (0, 0) _ rfl ?hc Tryz.underlying26 rfl (by kernel_rfl)) rfl ?_
  case hc => exact eight_set HX3.out
  exact ⟨none, 0, by rw [evV_0]; rfl, R_ev0 _ _, below_sets HB3.out (Nat.le_refl _) _ _ _ _ _ _ _ _⟩
/-- What script.Parse makes of an event that read has told. -/
def parT (e : Ev) (ln : ByteArray) (ok : Bool) (s : ByteArray) : Ev × Int := if (if ok = true then ln else ⟨#[]⟩) = s then (e, 0) else (ev0 0, 2)
set_option maxHeartbeats 8000000 in
set_option maxRecDepth 100000 in
theorem parse_told (s l0 : ByteArray) (ws : List ByteArray) (K k : Nat) (e : Ev) (ln : ByteArray) (ok : Bool) (w : World) (hE : EnvW w) (hs : s.size ≤ 1000000) (hsp : splitS s ⟨#[32]⟩ = l0 :: ws) (hk : script_kindOf.f K l0 = some (k : Int)) (hk12 : k < 12) (hr : readG k ws = some (e, true)) (hT : Told e k ln ok) :
    Calls Tryz.prog 7 #[.string s] w fun r w' => ∃ A c, r = .returned (.tuple #[evV (parT e ln ok s).1 A c, .int .i64 (parT e ln ok s).2]) ∧ (Kd.int .u8).R 5 w' w.heap.size (fun _ => True) (.slice A (parT e ln ok s).1.d.length c) (parT e ln ok s).1.d ∧ Below w.heap.size w w' := by
  have HE := Aside0.mk hE
  have HT := Aside0.mk hT
  have HC := Aside0.mk (fun (W : World) (hb : Below w.heap.size w W) => read_core s l0 ws K k (e, true) W (hE.below hb) hs hsp hk hk12 hr)
  clear hE hsp hk hr hT
  unfold evV at HC
  generalize hp : parT e ln ok s = out
  have HP := Aside0.mk hp
  clear hp
  go_enter Tryz.func7, Tryz.ntmps7
  go_wp2_with (fail)
  (with_reducible refine (HC.out _ ((Below.refl _ _).alloc (Nat.le_refl _) _)).mono ?_)
  rintro r w2 ⟨A, c, rfl, hR, hb2⟩
  have HX2 := Aside0.mk ((hb2.block w.heap.size (by simp)).trans (heap_alloc_new w _))
  have HB2 := Aside0.mk (below_step ((Below.refl w.heap.size w).alloc (Nat.le_refl _) _) hb2)
  have hlt : w.heap.size < w2.heap.size := Nat.lt_of_lt_of_le (by simp) hb2.size
  have HR2 := Aside0.mk hR
  have hpr := print_told e k ln ok A c (w2.alloc (.cells #[.int .i64 e.k, .int .i64 e.a, .int .i64 e.b, .int .i64 e.n, .int .i64 e.m, .string e.s, .complex .f64 (fl e.x) (fl e.y), .slice A e.d.length c] 26 (0, 0))) (HE.out.below (below_alloc HB2.out _)) HT.out (Kd.C_alloc (Kd.R_reads' hR).2.2 _)
  unfold evV at hpr
  have HPr := Aside0.mk hpr
  clear hb2 hR hpr
  have HX3 := Aside0.mk (heap_step_alloc HX2.out hlt (.cells #[.int .i64 e.k, .int .i64 e.a, .int .i64 e.b, .int .i64 e.n, .int .i64 e.m, .string e.s, .complex .f64 (fl e.x) (fl e.y), .slice A e.d.length c] 26 (0, 0)))
  have HB3 := Aside0.mk (below_alloc HB2.out (.cells #[.int .i64 e.k, .int .i64 e.a, .int .i64 e.b, .int .i64 e.n, .int .i64 e.m, .string e.s, .complex .f64 (fl e.x) (fl e.y), .slice A e.d.length c] 26 (0, 0)))
  have HG3 := Aside0.mk (heap_alloc_new w2 (.cells #[.int .i64 e.k, .int .i64 e.a, .int .i64 e.b, .int .i64 e.n, .int .i64 e.m, .string e.s, .complex .f64 (fl e.x) (fl e.y), .slice A e.d.length c] 26 (0, 0)))
  have HR3 := Aside0.mk (Kd.R_below HR2.out ((Below.refl _ _).alloc (Nat.le_refl _) (.cells #[.int .i64 e.k, .int .i64 e.a, .int .i64 e.b, .int .i64 e.n, .int .i64 e.m, .string e.s, .complex .f64 (fl e.x) (fl e.y), .slice A e.d.length c] 26 (0, 0))))
  have HL3 := Aside0.mk (show w2.heap.size < (w2.alloc (.cells #[.int .i64 e.k, .int .i64 e.a, .int .i64 e.b, .int .i64 e.n, .int .i64 e.m, .string e.s, .complex .f64 (fl e.x) (fl e.y), .slice A e.d.length c] 26 (0, 0))).heap.size by simp)
  obtain ⟨w3, hw3⟩ : ∃ w3, w2.alloc (.cells #[.int .i64 e.k, .int .i64 e.a, .int .i64 e.b, .int .i64 e.n, .int .i64 e.m, .string e.s, .complex .f64 (fl e.x) (fl e.y), .slice A e.d.length c] 26 (0, 0)) = w3 := ⟨_, rfl⟩
  rw [hw3] at HX3 HB3 HG3 HR3 HL3 HPr
  clear HX2 HB2 HR2
  obtain ⟨k0, k1, k2, k3, k4, k5, k6, k7⟩ := cells8 HG3.out
  go_wp2_with (fail)
  (with_reducible refine HPr.out.mono ?_)
  rintro r w4 ⟨rfl, hb4⟩
  clear k0 k1 k2 k3 k4 k5 k6 k7 hw3
  have HX4 := Aside0.mk ((hb4.block _ (lt_of_some HX3.out)).trans HX3.out)
  have HG4 := Aside0.mk ((hb4.block _ (lt_of_some HG3.out)).trans HG3.out)
  have HB4 := Aside0.mk (below_then HB3.out (Nat.le_of_lt (Nat.lt_trans hlt HL3.out)) hb4)
  have HR4 := Aside0.mk (Kd.R_below HR3.out hb4)
  clear hb4 HX3 HG3 HB3 HR3 HPr
  obtain ⟨k0, k1, k2, k3, k4, k5, k6, k7⟩ := cells8 HX4.out
  obtain ⟨j0, j1, j2, j3, j4, j5, j6, j7⟩ := cells8 HG4.out
  have f0 := Lib.frozen_of_heap HX4.out 0
  have f1 := Lib.frozen_of_heap HX4.out 1
  have f2 := Lib.frozen_of_heap HX4.out 2
  have f3 := Lib.frozen_of_heap HX4.out 3
  have f4 := Lib.frozen_of_heap HX4.out 4
  have f5 := Lib.frozen_of_heap HX4.out 5
  have f6 := Lib.frozen_of_heap HX4.out 6
  have f7 := Lib.frozen_of_heap HX4.out 7
  by_cases hq : (if ok = true then ln else ⟨#[]⟩) = s
  · have hpo := HP.out
    rw [parT, if_pos hq] at hpo
    subst hpo
    generalize (if ok = true then ln else ⟨#[]⟩) = pr at hq ⊢
    subst hq
    go_wp2_with (fail)
    refine bodyPost_ret (results_ct rfl _ _ w.heap.size 26 #[.int .i64 e.k, .int .i64 e.a, .int .i64 e.b, .int .i64 e.n, .int .i64 e.m, .string e.s, .complex .f64 (fl e.x) (fl e.y), .slice A e.d.length c] (0, 0) _ rfl ?hc Tryz.underlying26 rfl (by kernel_rfl)) rfl ?_
    case hc => exact eight_set HX4.out
    exact ⟨A, c, rfl, R_sets HR4.out (by simp) _ _ _ _ _ _ _ _, below_sets HB4.out (Nat.le_refl _) _ _ _ _ _ _ _ _⟩
  · have hpo := HP.out
    rw [parT, if_neg hq] at hpo
    subst hpo
    generalize (if ok = true then ln else ⟨#[]⟩) = pr at hq ⊢
    have hne : (pr.toList == s.toList) = false := beq_eq_false_iff_ne.2 (fun h => hq (by
      rw [Go.ByteArray.toList_eq, Go.ByteArray.toList_eq] at h
      cases pr; cases s
      congr 1
      exact Array.ext' h))
    go_wp2_with (fail)
    refine bodyPost_ret (results_ct rfl _ _ w.heap.size 26 #[.int .i64 0, .int .i64 0, .int .i64 0, .int .i64 0, .int .i64 0, .string ⟨#[]⟩, .complex .f64 0 0, .slice none 0 0] (0, 0) _ rfl ?hc Tryz.underlying26 rfl (by kernel_rfl)) rfl ?_
    case hc => exact eight_set HX4.out
    exact ⟨none, 0, by rw [evV_0]; rfl, R_ev0 _ _, below_sets HB4.out (Nat.le_refl _) _ _ _ _ _ _ _ _⟩
end Go.Proofs.YtndgaeldndgioaaGreatDoor.QAll
end

section
/- What is written is read back by the program: lines and events. -/
set_option linter.unusedVariables false
set_option linter.unusedSimpArgs false
set_option maxHeartbeats 1000000
namespace Go.Proofs.YtndgaeldndgioaaGreatDoor.Pure
open Go.RowKit Go.Proofs.YtndgaeldndgioaaGreatDoor.QAll Go.Proofs.YtndgaeldndgioaaGreatDoorW.PrintWords Go.Proofs.YtndgaeldndgioaaGreatDoorW.PrintLast
def upd (e : Ev) (c : UInt8) (e0 : Ev) : Ev :=
  if c = 83 then { e0 with s := e.s } else if c = 88 then { e0 with x := e.x } else if c = 89 then { e0 with y := e.y } else if c = 65 then { e0 with a := e.a }
  else if c = 66 then { e0 with b := e.b } else if c = 78 then { e0 with n := e.n } else { e0 with m := e.m }
theorem inv_upd (e e0 : Ev) (c : UInt8) (M : Nat) (hi : Inv 90000 e) (h0 : Inv M e0) : Inv M (upd e c e0) := by
  unfold upd
  split
  · exact ⟨h0.a, h0.b, h0.n, h0.m, h0.x, h0.y, hi.s, h0.d, h0.l⟩
  split
  · exact ⟨h0.a, h0.b, h0.n, h0.m, hi.x, h0.y, h0.s, h0.d, h0.l⟩
  split
  · exact ⟨h0.a, h0.b, h0.n, h0.m, h0.x, hi.y, h0.s, h0.d, h0.l⟩
  split
  · exact ⟨hi.a, h0.b, h0.n, h0.m, h0.x, h0.y, h0.s, h0.d, h0.l⟩
  split
  · exact ⟨h0.a, hi.b, h0.n, h0.m, h0.x, h0.y, h0.s, h0.d, h0.l⟩
  split
  · exact ⟨h0.a, h0.b, hi.n, h0.m, h0.x, h0.y, h0.s, h0.d, h0.l⟩
  · exact ⟨h0.a, h0.b, h0.n, hi.m, h0.x, h0.y, h0.s, h0.d, h0.l⟩
theorem let_u8 {c : UInt8} (hc : isLet (c.toNat : Int)) : c = 83 ∨ c = 68 ∨ c = 88 ∨ c = 89 ∨ c = 65 ∨ c = 66 ∨ c = 78 ∨ c = 77 := by
  have f : ∀ z : UInt8, (c.toNat : Int) = (z.toNat : Int) → c = z := fun z h => UInt8.toNat_inj.1 (by omega)
  rcases hc with h | h | h | h | h | h | h | h
  · exact Or.inl (f 83 h)
  · exact Or.inr (Or.inl (f 68 h))
  · exact Or.inr (Or.inr (Or.inl (f 88 h)))
  · exact Or.inr (Or.inr (Or.inr (Or.inl (f 89 h))))
  · exact Or.inr (Or.inr (Or.inr (Or.inr (Or.inl (f 65 h)))))
  · exact Or.inr (Or.inr (Or.inr (Or.inr (Or.inr (Or.inl (f 66 h))))))
  · exact Or.inr (Or.inr (Or.inr (Or.inr (Or.inr (Or.inr (Or.inl (f 78 h)))))))
  · exact Or.inr (Or.inr (Or.inr (Or.inr (Or.inr (Or.inr (Or.inr (f 77 h)))))))
theorem set_upd (e e0 : Ev) (c : UInt8) (M : Nat) (hM : M ≤ 90000) (hi : Inv 90000 e) (h0 : Inv M e0) (hc : isLet (c.toNat : Int)) (hd : c ≠ 68) : setC e0 (c.toNat : Int) (wordE e c).1 = some (upd e c e0, true) := by
  rcases let_u8 hc with rfl | rfl | rfl | rfl | rfl | rfl | rfl | rfl
  · exact set_txtW e0 e.s M hM h0 hi.s
  · exact absurd rfl hd
  · exact set_numW e0 88 e.x { e0 with x := e.x } M hM h0 (by decide) (by decide) hi.x rfl
  · exact set_numW e0 89 e.y { e0 with y := e.y } M hM h0 (by decide) (by decide) hi.y rfl
  · exact set_numW e0 65 e.a { e0 with a := e.a } M hM h0 (by decide) (by decide) hi.a rfl
  · exact set_numW e0 66 e.b { e0 with b := e.b } M hM h0 (by decide) (by decide) hi.b rfl
  · exact set_numW e0 78 e.n { e0 with n := e.n } M hM h0 (by decide) (by decide) hi.n rfl
  · exact set_numW e0 77 e.m { e0 with m := e.m } M hM h0 (by decide) (by decide) hi.m rfl
theorem readL_back (e : Ev) (hi : Inv 90000 e) : ∀ (L : List UInt8) (e0 : Ev) (M : Nat), M ≤ 90000 → Inv M e0 → (∀ c ∈ L, isLet (c.toNat : Int)) → (68 : UInt8) ∉ L → readL L (L.map fun c => (wordE e c).1) e0 = some (some (L.foldl (fun e0 c => upd e c e0) e0))
  | [], e0, _, _, _, _, _ => rfl
  | c :: L, e0, M, hM, h0, hc, h68 => by
    rw [List.map_cons, readL, set_upd e e0 c M hM hi h0 (hc c (by simp)) (fun h => h68 (by rw [h]; exact List.mem_cons_self))]
    simp only [Option.bind_some]
    rw [if_pos trivial, readL_back e hi L (upd e c e0) M hM (inv_upd e e0 c M hi h0) (fun x hx => hc x (by simp [hx])) (fun h => h68 (List.mem_cons_of_mem _ h)), List.foldl_cons]
theorem ev_ext {e e' : Ev} (h1 : e.k = e'.k) (h2 : e.a = e'.a) (h3 : e.b = e'.b) (h4 : e.n = e'.n) (h5 : e.m = e'.m) (h6 : e.s = e'.s) (h7 : e.x = e'.x) (h8 : e.y = e'.y) (h9 : e.d = e'.d) : e = e' := by
  cases e; cases e'
  simp only at h1 h2 h3 h4 h5 h6 h7 h8 h9
  subst h1 h2 h3 h4 h5 h6 h7 h8 h9
  rfl
theorem fold_back : ∀ k : Nat, k < 12 → k ≠ 4 → ∀ e : Ev, SameL (lettL.getD k []) (ev0 k) e → (lettL.getD k []).foldl (fun e0 c => upd e c e0) (ev0 k) = e
  | 0, _, _, e, h => ev_ext h.k.symm (h.a (by decide)).symm (h.b (by decide)).symm (h.n (by decide)).symm (h.m (by decide)).symm (h.s (by decide)).symm (h.x (by decide)).symm (h.y (by decide)).symm (h.d (by decide)).symm
  | 1, _, _, e, h => ev_ext h.k.symm rfl (h.b (by decide)).symm (h.n (by decide)).symm (h.m (by decide)).symm rfl (h.x (by decide)).symm (h.y (by decide)).symm (h.d (by decide)).symm
  | 2, _, _, e, h => ev_ext h.k.symm rfl (h.b (by decide)).symm (h.n (by decide)).symm (h.m (by decide)).symm rfl (h.x (by decide)).symm (h.y (by decide)).symm (h.d (by decide)).symm
  | 3, _, _, e, h => ev_ext h.k.symm rfl (h.b (by decide)).symm (h.n (by decide)).symm (h.m (by decide)).symm (h.s (by decide)).symm (h.x (by decide)).symm (h.y (by decide)).symm (h.d (by decide)).symm
  | 4, _, h4, _, _ => absurd rfl h4
  | 5, _, _, e, h => ev_ext h.k.symm rfl rfl (h.n (by decide)).symm (h.m (by decide)).symm (h.s (by decide)).symm (h.x (by decide)).symm (h.y (by decide)).symm (h.d (by decide)).symm
  | 6, _, _, e, h => ev_ext h.k.symm rfl rfl rfl rfl (h.s (by decide)).symm (h.x (by decide)).symm (h.y (by decide)).symm (h.d (by decide)).symm
  | 7, _, _, e, h => ev_ext h.k.symm rfl rfl (h.n (by decide)).symm (h.m (by decide)).symm (h.s (by decide)).symm (h.x (by decide)).symm (h.y (by decide)).symm (h.d (by decide)).symm
  | 8, _, _, e, h => ev_ext h.k.symm rfl rfl (h.n (by decide)).symm (h.m (by decide)).symm (h.s (by decide)).symm (h.x (by decide)).symm (h.y (by decide)).symm (h.d (by decide)).symm
  | 9, _, _, e, h => ev_ext h.k.symm rfl (h.b (by decide)).symm rfl (h.m (by decide)).symm (h.s (by decide)).symm rfl rfl (h.d (by decide)).symm
  | 10, _, _, e, h => ev_ext h.k.symm rfl (h.b (by decide)).symm (h.n (by decide)).symm (h.m (by decide)).symm (h.s (by decide)).symm rfl rfl (h.d (by decide)).symm
  | 11, _, _, e, h => ev_ext h.k.symm rfl (h.b (by decide)).symm (h.n (by decide)).symm (h.m (by decide)).symm (h.s (by decide)).symm rfl rfl (h.d (by decide)).symm
  | k + 12, h, _, _, _ => absurd h (by omega)
theorem no68 : ∀ k : Nat, k < 12 → k ≠ 4 → (68 : UInt8) ∉ lettL.getD k []
  | 0, _, _ => by decide | 1, _, _ => by decide | 2, _, _ => by decide | 3, _, _ => by decide | 4, _, h => absurd rfl h | 5, _, _ => by decide | 6, _, _ => by decide | 7, _, _ => by decide | 8, _, _ => by decide | 9, _, _ => by decide | 10, _, _ => by decide | 11, _, _ => by decide
  | k + 12, h, _ => absurd h (by omega)
theorem lett_pos : ∀ k : Nat, 0 < k → k < 12 → 0 < (lettL.getD k []).length
  | 0, h, _ => absurd h (by decide)
  | 1, _, _ => by decide | 2, _, _ => by decide | 3, _, _ => by decide | 4, _, _ => by decide | 5, _, _ => by decide | 6, _, _ => by decide | 7, _, _ => by decide | 8, _, _ => by decide | 9, _, _ => by decide | 10, _, _ => by decide | 11, _, _ => by decide
  | k + 12, _, h => absurd h (by omega)
theorem read_back (e : Ev) (k : Nat) (h : DE e k) (hok : okE e k = true) : readG k (wsE e k) = some (e, true) := by
  have hp := lett_pos k h.k0 h.k12
  have hs := lett_sz k
  have hw : (wsE e k).length = (lettL.getD k []).length := by unfold wsE; rw [List.length_map]
  unfold readG
  rw [if_neg (by omega)]
  have el : (lettersOf k).data.toList = lettL.getD k [] := rfl
  rw [el]
  have hr : readL (lettL.getD k []) (wsE e k) (ev0 k) = some (some e) := by
    by_cases h4 : k = 4
    · subst h4
      have hd : (decide ((e.d.length : Int) ≤ 16)) = true := by
        have : okE e 4 = ((decide ((e.d.length : Int) ≤ 16)) && true) := rfl
        rw [this, Bool.and_true] at hok
        exact hok
      have hd' := of_decide_eq_true hd
      show readL [68] [⟨#[35]⟩ ++ hexD e.d] (ev0 4) = _
      rw [readL]
      have := set_drwW (ev0 4) e.d 0 (by omega) (inv0' 4) h.inv.d (by omega) rfl
      rw [show (((68 : UInt8).toNat : Nat) : Int) = 68 from rfl, this]
      show some (some { ev0 4 with d := e.d }) = some (some e)
      have hq := h.same
      rw [ev_ext (e := { ev0 4 with d := e.d }) (e' := e) hq.k.symm (hq.a (by decide)).symm (hq.b (by decide)).symm (hq.n (by decide)).symm (hq.m (by decide)).symm (hq.s (by decide)).symm (hq.x (by decide)).symm (hq.y (by decide)).symm rfl]
    · have := readL_back e h.inv (lettL.getD k []) (ev0 k) 0 (by omega) (inv0' k) (lets_all k h.k12) (no68 k h.k12 h4)
      rw [fold_back k h.k12 h4 e h.same] at this
      exact this
  rw [hr]
  rfl
theorem join_le (c : UInt8) (B : Nat) : ∀ (r : List (List UInt8)) (x : List UInt8), (∀ y ∈ x :: r, y.length ≤ B) → (Lib.join (x :: r) [c]).length ≤ (r.length + 1) * (B + 1)
  | [], x, h => by
    rw [Lib.join_one]
    have := h x (by simp)
    simp; omega
  | y :: r, x, h => by
    have e : Lib.join (x :: y :: r) [c] = x ++ c :: Lib.join (y :: r) [c] := by
      rw [Lib.join_cons, Lib.join_cons]
      simp [Lib.joinTail]
    have h1 := h x (by simp)
    have h2 := join_le c B r y (fun z hz => h z (by simp [List.mem_cons.1 hz]))
    rw [e, List.length_append, List.length_cons, List.length_cons, Nat.add_mul (r.length + 1) 1 (B + 1)]
    omega
theorem name_small_all : ((List.range 12).all fun k => decide ((nameOf k).size ≤ 5) && (nameOf k).toList.all fun b => decide (b ≠ 32)) = true := by kernel_rfl
theorem name_small (k : Nat) (hk : k < 12) : (nameOf k).size ≤ 5 ∧ ∀ b ∈ (nameOf k).toList, b ≠ 32 := by
  have h := List.all_eq_true.1 name_small_all k (List.mem_range.2 hk)
  rw [Bool.and_eq_true] at h
  exact ⟨of_decide_eq_true h.1, fun b hb => of_decide_eq_true (List.all_eq_true.1 h.2 b hb)⟩
theorem ws_all (e : Ev) (k : Nat) (h : DE e k) : ∀ y ∈ nameOf k :: wsE e k, y.size ≤ 190000 ∧ ∀ b ∈ y.toList, b ≠ 32 := by
  intro y hy
  rcases List.mem_cons.1 hy with rfl | hy
  · have := name_small k h.k12
    exact ⟨by omega, this.2⟩
  · obtain ⟨c, hc, rfl⟩ := List.mem_map.1 hy
    exact word_len e c h.inv (lets_all k h.k12 c hc)
theorem ws_len (e : Ev) (k : Nat) (h : DE e k) : (wsE e k).length ≤ 4 := by
  unfold wsE
  rw [List.length_map]
  exact lett_len k h.k12
theorem ln_len (e : Ev) (k : Nat) (h : DE e k) : (joinL (nameOf k :: wsE e k) ⟨#[32]⟩).length ≤ 1000000 := by
  have hl := ws_len e k h
  have := join_le 32 190000 ((wsE e k).map (·.data.toList)) (nameOf k).data.toList (fun y hy => by
    have hy' : y ∈ (nameOf k :: wsE e k).map (·.data.toList) := hy
    obtain ⟨z, hz, rfl⟩ := List.mem_map.1 hy'
    have := (ws_all e k h z hz).1
    rw [← len_eq, Go.ByteArray.toList_eq] at this
    exact this)
  unfold joinL
  have h2 : ((wsE e k).map (·.data.toList)).length ≤ 4 := by rw [List.length_map]; exact hl
  refine Nat.le_trans this ?_
  have : (((wsE e k).map (·.data.toList)).length + 1) * (190000 + 1) ≤ 5 * (190000 + 1) := Nat.mul_le_mul_right _ (by omega)
  omega
theorem ln_split (e : Ev) (k : Nat) (h : DE e k) : splitS (lnE e k) ⟨#[32]⟩ = nameOf k :: wsE e k := by
  apply map_inj
  rw [split_list, Go.ByteArray.toList_eq]
  show splitL 32 (Lib.join ((nameOf k :: wsE e k).map (·.data.toList)) [32]) = _
  rw [List.map_cons, split_join 32 _ _ (fun y hy b hb => by
    have hy' : y ∈ (nameOf k :: wsE e k).map (·.data.toList) := hy
    obtain ⟨z, hz, rfl⟩ := List.mem_map.1 hy'
    exact (ws_all e k h z hz).2 b (by rw [Go.ByteArray.toList_eq]; exact hb)), List.map_cons]
  simp [Go.ByteArray.toList_eq]
theorem kind_name_all : ((List.range 12).all fun k => k == 0 || decide (script_kindOf.f 50 (nameOf k) = some (k : Int))) = true := by kernel_rfl
theorem kind_name (k : Nat) (h0 : 0 < k) (hk : k < 12) : script_kindOf.f 50 (nameOf k) = some (k : Int) := by
  have h := List.all_eq_true.1 kind_name_all k (List.mem_range.2 hk)
  have e : (k == 0) = false := beq_false_of_ne (by omega)
  rw [e, Bool.false_or] at h
  exact of_decide_eq_true h
theorem kind_some (l0 : ByteArray) : ∀ (d j K : Nat), j + d = 12 → d + 1 ≤ K → ∃ k : Nat, k < 12 ∧ script_kindOf.l0 K l0 (j : Int) = some (k : Int)
  | _, _, 0, _, hK => absurd hK (by omega)
  | 0, j, K + 1, hj, _ => ⟨0, by omega, by rw [script_kindOf.l0, if_neg (by omega)]; rfl⟩
  | d + 1, j, K + 1, hj, hK => by
    rw [script_kindOf.l0, if_pos (by omega), form_at j (by omega)]
    simp only [Option.bind_some]
    by_cases hq : (nameOf j).toList = l0.toList
    · rw [if_pos hq]
      exact ⟨j, by omega, rfl⟩
    · rw [if_neg hq, wrap_lit j 1 1 rfl (by omega)]
      exact kind_some l0 d (j + 1) K (by omega) (by omega)
end Go.Proofs.YtndgaeldndgioaaGreatDoor.Pure
end

section
/- script.Parse of any line of up to 2000 letters: its event, if the line is an event's; else none. -/
set_option linter.unusedVariables false
set_option linter.unusedSimpArgs false
set_option maxHeartbeats 1000000
namespace Go.Proofs.YtndgaeldndgioaaGreatDoor.Pure
open Go.RowKit Go.Proofs.YtndgaeldndgioaaGreatDoor.QAll Go.Proofs.YtndgaeldndgioaaGreatDoorW.PrintWords Go.Proofs.YtndgaeldndgioaaGreatDoorW.PrintLast
theorem i64_of {v : Int} (h : -9999 ≤ v ∧ v ≤ 9999) : I64 v := by unfold I64; omega
theorem told_of (e : Ev) (k : Nat) (h : DE e k) : QAll.Told e k (if okE e k = true then lnE e k else ⟨#[]⟩) (okE e k) := by
  have hi := h.inv
  have hll := ln_len e k h
  have hwl := ws_len e k h
  refine ⟨h.k0, h.k12, h.same.k, ⟨⟨hi.x.1, hi.x.2, hi.y.1, hi.y.2⟩, by have := hi.s; omega, hi.d, by have := hi.l; omega, i64_of hi.a, i64_of hi.b, i64_of hi.n, i64_of hi.m⟩, ⟨_, lineL_of e k h.k12, ?_⟩, fun hok => ⟨nameOf k, wsE e k, 50, ?_, ?_, kind_name k h.k0 h.k12, read_back e k h hok⟩⟩
  · cases hok : okE e k with
    | true =>
      rw [if_pos rfl, if_pos rfl]
      show (strings_Join.f (nameOf k :: wsE e k) ⟨#[32]⟩).map (fun r => (r, true)) = _
      unfold strings_Join.f
      rw [if_pos ⟨by simp, by rw [List.length_cons]; omega, by omega⟩]
      rfl
    | false =>
      rw [if_neg (by decide), if_neg (by decide)]
      rfl
  · rw [if_pos hok, ← len_eq, Go.ByteArray.toList_eq]
    exact hll
  · rw [if_pos hok]
    exact ln_split e k h
theorem split_empty : splitS (⟨#[]⟩ : ByteArray) ⟨#[32]⟩ = [⟨#[]⟩] := by
  apply map_inj
  rw [split_list, Go.ByteArray.toList_eq]
  show splitL 32 [] = [ByteArray.toList ⟨#[]⟩]
  rw [Go.ByteArray.toList_eq]
  rfl
theorem kind_of (l0 : ByteArray) : ∃ k : Nat, k < 12 ∧ script_kindOf.f 50 l0 = some (k : Int) := kind_some l0 11 1 50 (by omega) (by omega)
theorem in_L (s : ByteArray) (l0 : ByteArray) (ws : List ByteArray) (hsp : splitS s ⟨#[32]⟩ = l0 :: ws) (k : Nat) (hk : script_kindOf.f 50 l0 = some (k : Int)) (e : Ev) (k' : Nat) (h : DE e k') (hok : okE e k' = true) (hl : lnE e k' = s) : k' = k ∧ readG k ws = some (e, true) := by
  have h1 := ln_split e k' h
  rw [hl, hsp] at h1
  injection h1 with h2 h3
  subst h2 h3
  rw [kind_name k' h.k0 h.k12] at hk
  have : k' = k := by have := Option.some.inj hk; omega
  subst this
  exact ⟨rfl, read_back e k' h hok⟩
theorem script_parse (s : ByteArray) (hs : s.size ≤ 2000) : ∃ out : Ev × Int, ((∃ k, DE out.1 k ∧ okE out.1 k = true ∧ lnE out.1 k = s ∧ out.2 = 0) ∨ (out = (ev0 0, 2) ∧ ∀ e k, DE e k → okE e k = true → lnE e k ≠ s)) ∧
    ∀ w, EnvW w → Calls Tryz.prog 7 #[.string s] w fun r w' => ∃ A c, r = .returned (.tuple #[evV out.1 A c, .int .i64 out.2]) ∧ (Kd.int .u8).R 5 w' w.heap.size (fun _ => True) (.slice A out.1.d.length c) out.1.d ∧ Below w.heap.size w w' := by
  obtain ⟨h1, h2, h3⟩ := split_sizes s 32
  match hsp : splitS s ⟨#[32]⟩, h1 with
  | l0 :: ws, _ =>
  rw [hsp] at h3
  obtain ⟨k, hk12, hk⟩ := kind_of l0
  rcases readG_some k hk12 ws (fun x hx => by have := h3 x (by simp [hx]); omega) with hr | ⟨e, hr, hD⟩
  · refine ⟨(ev0 0, 2), Or.inr ⟨rfl, fun e k' h hok hl => ?_⟩, fun w hE => parse_none s l0 ws 50 k w hE (by omega) hsp hk hk12 hr⟩
    obtain ⟨_, q⟩ := in_L s l0 ws hsp k hk e k' h hok hl
    rw [hr] at q
    have := (Prod.mk.inj (Option.some.inj q)).2
    cases this
  · have hT := told_of e k hD
    refine ⟨parT e (if okE e k = true then lnE e k else ⟨#[]⟩) (okE e k) s, ?_, fun w hE => parse_told s l0 ws 50 k e _ (okE e k) w hE (by omega) hsp hk hk12 hr hT⟩
    unfold parT
    cases hok : okE e k with
    | true =>
      rw [if_pos rfl, if_pos rfl]
      by_cases hq : lnE e k = s
      · rw [if_pos hq]
        exact Or.inl ⟨k, hD, hok, hq, rfl⟩
      · rw [if_neg hq]
        refine Or.inr ⟨rfl, fun e' k' h hok' hl => ?_⟩
        obtain ⟨rfl, q⟩ := in_L s l0 ws hsp k hk e' k' h hok' hl
        rw [hr] at q
        obtain rfl := (Prod.mk.inj (Option.some.inj q)).1
        exact hq hl
    | false =>
      rw [if_neg Bool.false_ne_true]
      have hne : ¬ (⟨#[]⟩ : ByteArray) = s := by
        rintro rfl
        rw [split_empty] at hsp
        injection hsp with _ q
        subst q
        unfold readG at hr
        have := lett_pos k hD.k0 hD.k12
        have hz := lett_sz k
        rw [if_pos (Or.inr (by rw [List.length_nil]; omega))] at hr
        cases (Prod.mk.inj (Option.some.inj hr)).2
      rw [if_neg hne]
      refine Or.inr ⟨rfl, fun e' k' h hok' hl => ?_⟩
      obtain ⟨rfl, q⟩ := in_L s l0 ws hsp k hk e' k' h hok' hl
      rw [hr] at q
      obtain rfl := (Prod.mk.inj (Option.some.inj q)).1
      rw [hok] at hok'
      cases hok'
end Go.Proofs.YtndgaeldndgioaaGreatDoor.Pure
end

section
/- squelchref30.Print, walked by hand, for each kind that there is. -/
set_option linter.unusedVariables false
set_option linter.unusedSimpArgs false
namespace Go.Proofs.YtndgaeldndgioaaGreatDoor.QAll
open Go.RowKit Go.Proofs.YtndgaeldndgioaaGreatDoorW.PrintWords Go.Proofs.YtndgaeldndgioaaGreatDoorW.PrintLast Go.Proofs.YtndgaeldndgioaaGreatDoorW.PrintMore

set_option maxHeartbeats 16000000 in
set_option maxRecDepth 100000 in
theorem rprint1 (a b n m : Int) (s : ByteArray) (x y : Int) (d : ByteArray) (K : Nat) (K2 : Nat) (ta : ByteArray) (tt : ByteArray) (w : World) (ha : squelchref30_num.f K a = some ta) (za : ta.size ≤ 1000) (ht : squelchref30_text.f K2 s = some tt) (zt : tt.size ≤ 1000000) :
    Calls Tryz.prog 22 #[rV 1 a b n m s x y d] w fun e w' => e = .returned (.string (((⟨#[75, 69, 89, 83]⟩ ++ ta) ++ ⟨#[32]⟩) ++ tt)) ∧ Below w.heap.size w w' := by
  unfold rV
  have JA := Aside0.mk ha
  clear ha
  have HT := Aside0.mk ht
  clear ht
  have hz : (⟨#[75, 69, 89, 83]⟩ : ByteArray).size = 4 := rfl
  have hz1 : (⟨#[32]⟩ : ByteArray).size = 1 := rfl
  go_enter Tryz.func22, Tryz.ntmps22
  go_wp2_with (fail)
  have HB := Aside0.mk ((Below.refl w.heap.size w).alloc (Nat.le_refl _) (.cells #[.int .i64 1, .int .i64 a, .int .i64 b, .int .i64 n, .int .i64 m, .string s, .int .i64 x, .int .i64 y, .string d] 31 (0, 0)))
  have HX := Aside0.mk (heap_alloc_new w (.cells #[.int .i64 1, .int .i64 a, .int .i64 b, .int .i64 n, .int .i64 m, .string s, .int .i64 x, .int .i64 y, .string d] 31 (0, 0)))
  have HZ := Aside0.mk (show w.heap.size < (w.alloc (.cells #[.int .i64 1, .int .i64 a, .int .i64 b, .int .i64 n, .int .i64 m, .string s, .int .i64 x, .int .i64 y, .string d] 31 (0, 0))).heap.size by simp)
  generalize (w.alloc (.cells #[.int .i64 1, .int .i64 a, .int .i64 b, .int .i64 n, .int .i64 m, .string s, .int .i64 x, .int .i64 y, .string d] 31 (0, 0))) = w0 at HB HX HZ ⊢
  obtain ⟨k0, k1, k2, k3, k4, k5, k6, k7, k8⟩ := cells9 HX.out
  go_region_with (first | (go_at_call 18; (with_reducible refine (names_at _).mono ?_); rintro e w1 ⟨⟨g, c, rfl, hc⟩, hb⟩; have hc3 := hc 1 _ rfl; clear hc; have n0_ := Aside0.mk (below_step (by repeat (first | (with_reducible first | exact HB.out | apply pw_below_drewN | apply below_drew1) | exact HB.out)) hb); have n1_ := Aside0.mk ((hb.block w.heap.size HZ.out).trans HX.out); have n2_ := Aside0.mk (Nat.lt_of_lt_of_le HZ.out hb.size); clear HB HX HZ hb k0 k1 k2 k3 k4 k5 k6 k7 k8; have HB := n0_; have HX := n1_; have HZ := n2_; clear n0_ n1_ n2_; obtain ⟨k0, k1, k2, k3, k4, k5, k6, k7, k8⟩ := cells9 HX.out))
  all_goals clear hc3
  all_goals (go_wp2_with (first | (go_at_call 44; (first | (with_reducible refine (squelchref30_num.calls K a ta _ JA.out).mono ?_)); rintro e w' ⟨rfl, hb⟩; have n0_ := Aside0.mk (below_step (by repeat (first | (with_reducible first | exact HB.out | apply pw_below_drewN | apply below_drew1) | exact HB.out)) hb); have n1_ := Aside0.mk ((hb.block w.heap.size HZ.out).trans HX.out); have n2_ := Aside0.mk (Nat.lt_of_lt_of_le HZ.out hb.size); clear HB HX HZ hb k0 k1 k2 k3 k4 k5 k6 k7 k8; have HB := n0_; have HX := n1_; have HZ := n2_; clear n0_ n1_ n2_; obtain ⟨k0, k1, k2, k3, k4, k5, k6, k7, k8⟩ := cells9 HX.out) | (go_at_call 55; (with_reducible refine (squelchref30_text.calls K2 s tt _ HT.out).mono ?_); rintro e w' ⟨rfl, ⟨nd, rfl⟩⟩)))
  all_goals first
    | (exfalso; simp only [ByteArray.size_append, hz, hz1] at *; omega)
    | (go_ret; exact ⟨rfl, by repeat (first | (with_reducible first | exact HB.out | apply pw_below_drewN | apply below_drew1) | exact HB.out)⟩)
    | trace_state
set_option maxHeartbeats 16000000 in
set_option maxRecDepth 100000 in
theorem rprint2 (a b n m : Int) (s : ByteArray) (x y : Int) (d : ByteArray) (K : Nat) (K2 : Nat) (ta : ByteArray) (tt : ByteArray) (w : World) (ha : squelchref30_num.f K a = some ta) (za : ta.size ≤ 1000) (ht : squelchref30_text.f K2 s = some tt) (zt : tt.size ≤ 1000000) :
    Calls Tryz.prog 22 #[rV 2 a b n m s x y d] w fun e w' => e = .returned (.string (((⟨#[75, 73, 83, 83]⟩ ++ ta) ++ ⟨#[32]⟩) ++ tt)) ∧ Below w.heap.size w w' := by
  unfold rV
  have JA := Aside0.mk ha
  clear ha
  have HT := Aside0.mk ht
  clear ht
  have hz : (⟨#[75, 73, 83, 83]⟩ : ByteArray).size = 4 := rfl
  have hz1 : (⟨#[32]⟩ : ByteArray).size = 1 := rfl
  go_enter Tryz.func22, Tryz.ntmps22
  go_wp2_with (fail)
  have HB := Aside0.mk ((Below.refl w.heap.size w).alloc (Nat.le_refl _) (.cells #[.int .i64 2, .int .i64 a, .int .i64 b, .int .i64 n, .int .i64 m, .string s, .int .i64 x, .int .i64 y, .string d] 31 (0, 0)))
  have HX := Aside0.mk (heap_alloc_new w (.cells #[.int .i64 2, .int .i64 a, .int .i64 b, .int .i64 n, .int .i64 m, .string s, .int .i64 x, .int .i64 y, .string d] 31 (0, 0)))
  have HZ := Aside0.mk (show w.heap.size < (w.alloc (.cells #[.int .i64 2, .int .i64 a, .int .i64 b, .int .i64 n, .int .i64 m, .string s, .int .i64 x, .int .i64 y, .string d] 31 (0, 0))).heap.size by simp)
  generalize (w.alloc (.cells #[.int .i64 2, .int .i64 a, .int .i64 b, .int .i64 n, .int .i64 m, .string s, .int .i64 x, .int .i64 y, .string d] 31 (0, 0))) = w0 at HB HX HZ ⊢
  obtain ⟨k0, k1, k2, k3, k4, k5, k6, k7, k8⟩ := cells9 HX.out
  go_region_with (first | (go_at_call 18; (with_reducible refine (names_at _).mono ?_); rintro e w1 ⟨⟨g, c, rfl, hc⟩, hb⟩; have hc3 := hc 2 _ rfl; clear hc; have n0_ := Aside0.mk (below_step (by repeat (first | (with_reducible first | exact HB.out | apply pw_below_drewN | apply below_drew1) | exact HB.out)) hb); have n1_ := Aside0.mk ((hb.block w.heap.size HZ.out).trans HX.out); have n2_ := Aside0.mk (Nat.lt_of_lt_of_le HZ.out hb.size); clear HB HX HZ hb k0 k1 k2 k3 k4 k5 k6 k7 k8; have HB := n0_; have HX := n1_; have HZ := n2_; clear n0_ n1_ n2_; obtain ⟨k0, k1, k2, k3, k4, k5, k6, k7, k8⟩ := cells9 HX.out))
  all_goals clear hc3
  all_goals (go_wp2_with (first | (go_at_call 44; (first | (with_reducible refine (squelchref30_num.calls K a ta _ JA.out).mono ?_)); rintro e w' ⟨rfl, hb⟩; have n0_ := Aside0.mk (below_step (by repeat (first | (with_reducible first | exact HB.out | apply pw_below_drewN | apply below_drew1) | exact HB.out)) hb); have n1_ := Aside0.mk ((hb.block w.heap.size HZ.out).trans HX.out); have n2_ := Aside0.mk (Nat.lt_of_lt_of_le HZ.out hb.size); clear HB HX HZ hb k0 k1 k2 k3 k4 k5 k6 k7 k8; have HB := n0_; have HX := n1_; have HZ := n2_; clear n0_ n1_ n2_; obtain ⟨k0, k1, k2, k3, k4, k5, k6, k7, k8⟩ := cells9 HX.out) | (go_at_call 55; (with_reducible refine (squelchref30_text.calls K2 s tt _ HT.out).mono ?_); rintro e w' ⟨rfl, ⟨nd, rfl⟩⟩)))
  all_goals first
    | (exfalso; simp only [ByteArray.size_append, hz, hz1] at *; omega)
    | (go_ret; exact ⟨rfl, by repeat (first | (with_reducible first | exact HB.out | apply pw_below_drewN | apply below_drew1) | exact HB.out)⟩)
    | trace_state
set_option maxHeartbeats 16000000 in
set_option maxRecDepth 100000 in
theorem rprint3 (a b n m : Int) (s : ByteArray) (x y : Int) (d : ByteArray) (K : Nat) (ta : ByteArray) (w : World) (ha : squelchref30_num.f K a = some ta) (za : ta.size ≤ 1000) :
    Calls Tryz.prog 22 #[rV 3 a b n m s x y d] w fun e w' => e = .returned (.string (⟨#[82, 69, 65, 68]⟩ ++ ta)) ∧ Below w.heap.size w w' := by
  unfold rV
  have JA := Aside0.mk ha
  clear ha
  have hz : (⟨#[82, 69, 65, 68]⟩ : ByteArray).size = 4 := rfl
  have hz1 : (⟨#[32]⟩ : ByteArray).size = 1 := rfl
  go_enter Tryz.func22, Tryz.ntmps22
  go_wp2_with (fail)
  have HB := Aside0.mk ((Below.refl w.heap.size w).alloc (Nat.le_refl _) (.cells #[.int .i64 3, .int .i64 a, .int .i64 b, .int .i64 n, .int .i64 m, .string s, .int .i64 x, .int .i64 y, .string d] 31 (0, 0)))
  have HX := Aside0.mk (heap_alloc_new w (.cells #[.int .i64 3, .int .i64 a, .int .i64 b, .int .i64 n, .int .i64 m, .string s, .int .i64 x, .int .i64 y, .string d] 31 (0, 0)))
  have HZ := Aside0.mk (show w.heap.size < (w.alloc (.cells #[.int .i64 3, .int .i64 a, .int .i64 b, .int .i64 n, .int .i64 m, .string s, .int .i64 x, .int .i64 y, .string d] 31 (0, 0))).heap.size by simp)
  generalize (w.alloc (.cells #[.int .i64 3, .int .i64 a, .int .i64 b, .int .i64 n, .int .i64 m, .string s, .int .i64 x, .int .i64 y, .string d] 31 (0, 0))) = w0 at HB HX HZ ⊢
  obtain ⟨k0, k1, k2, k3, k4, k5, k6, k7, k8⟩ := cells9 HX.out
  go_region_with (first | (go_at_call 18; (with_reducible refine (names_at _).mono ?_); rintro e w1 ⟨⟨g, c, rfl, hc⟩, hb⟩; have hc3 := hc 3 _ rfl; clear hc; have n0_ := Aside0.mk (below_step (by repeat (first | (with_reducible first | exact HB.out | apply pw_below_drewN | apply below_drew1) | exact HB.out)) hb); have n1_ := Aside0.mk ((hb.block w.heap.size HZ.out).trans HX.out); have n2_ := Aside0.mk (Nat.lt_of_lt_of_le HZ.out hb.size); clear HB HX HZ hb k0 k1 k2 k3 k4 k5 k6 k7 k8; have HB := n0_; have HX := n1_; have HZ := n2_; clear n0_ n1_ n2_; obtain ⟨k0, k1, k2, k3, k4, k5, k6, k7, k8⟩ := cells9 HX.out))
  all_goals clear hc3
  all_goals (go_wp2_with (first | (go_at_call 44; (first | (with_reducible refine (squelchref30_num.calls K a ta _ JA.out).mono ?_)); rintro e w' ⟨rfl, hb⟩; have n0_ := Aside0.mk (below_step (by repeat (first | (with_reducible first | exact HB.out | apply pw_below_drewN | apply below_drew1) | exact HB.out)) hb); have n1_ := Aside0.mk ((hb.block w.heap.size HZ.out).trans HX.out); have n2_ := Aside0.mk (Nat.lt_of_lt_of_le HZ.out hb.size); clear HB HX HZ hb k0 k1 k2 k3 k4 k5 k6 k7 k8; have HB := n0_; have HX := n1_; have HZ := n2_; clear n0_ n1_ n2_; obtain ⟨k0, k1, k2, k3, k4, k5, k6, k7, k8⟩ := cells9 HX.out)))
  all_goals first
    | (exfalso; simp only [ByteArray.size_append, hz, hz1] at *; omega)
    | (go_ret; exact ⟨rfl, by repeat (first | (with_reducible first | exact HB.out | apply pw_below_drewN | apply below_drew1) | exact HB.out)⟩)
    | trace_state
set_option maxHeartbeats 16000000 in
set_option maxRecDepth 100000 in
theorem rprint5 (a b n m : Int) (s : ByteArray) (x y : Int) (d : ByteArray) (K : Nat) (ta : ByteArray) (tb : ByteArray) (w : World) (ha : squelchref30_num.f K a = some ta) (za : ta.size ≤ 1000) (hb : squelchref30_num.f K b = some tb) (zb : tb.size ≤ 1000) :
    Calls Tryz.prog 22 #[rV 5 a b n m s x y d] w fun e w' => e = .returned (.string ((⟨#[76, 79, 83, 69]⟩ ++ ta) ++ tb)) ∧ Below w.heap.size w w' := by
  unfold rV
  have JA := Aside0.mk ha
  clear ha
  have JB := Aside0.mk hb
  clear hb
  have hz : (⟨#[76, 79, 83, 69]⟩ : ByteArray).size = 4 := rfl
  have hz1 : (⟨#[32]⟩ : ByteArray).size = 1 := rfl
  go_enter Tryz.func22, Tryz.ntmps22
  go_wp2_with (fail)
  have HB := Aside0.mk ((Below.refl w.heap.size w).alloc (Nat.le_refl _) (.cells #[.int .i64 5, .int .i64 a, .int .i64 b, .int .i64 n, .int .i64 m, .string s, .int .i64 x, .int .i64 y, .string d] 31 (0, 0)))
  have HX := Aside0.mk (heap_alloc_new w (.cells #[.int .i64 5, .int .i64 a, .int .i64 b, .int .i64 n, .int .i64 m, .string s, .int .i64 x, .int .i64 y, .string d] 31 (0, 0)))
  have HZ := Aside0.mk (show w.heap.size < (w.alloc (.cells #[.int .i64 5, .int .i64 a, .int .i64 b, .int .i64 n, .int .i64 m, .string s, .int .i64 x, .int .i64 y, .string d] 31 (0, 0))).heap.size by simp)
  generalize (w.alloc (.cells #[.int .i64 5, .int .i64 a, .int .i64 b, .int .i64 n, .int .i64 m, .string s, .int .i64 x, .int .i64 y, .string d] 31 (0, 0))) = w0 at HB HX HZ ⊢
  obtain ⟨k0, k1, k2, k3, k4, k5, k6, k7, k8⟩ := cells9 HX.out
  go_region_with (first | (go_at_call 18; (with_reducible refine (names_at _).mono ?_); rintro e w1 ⟨⟨g, c, rfl, hc⟩, hb⟩; have hc3 := hc 5 _ rfl; clear hc; have n0_ := Aside0.mk (below_step (by repeat (first | (with_reducible first | exact HB.out | apply pw_below_drewN | apply below_drew1) | exact HB.out)) hb); have n1_ := Aside0.mk ((hb.block w.heap.size HZ.out).trans HX.out); have n2_ := Aside0.mk (Nat.lt_of_lt_of_le HZ.out hb.size); clear HB HX HZ hb k0 k1 k2 k3 k4 k5 k6 k7 k8; have HB := n0_; have HX := n1_; have HZ := n2_; clear n0_ n1_ n2_; obtain ⟨k0, k1, k2, k3, k4, k5, k6, k7, k8⟩ := cells9 HX.out))
  all_goals clear hc3
  all_goals (go_wp2_with (first | (go_at_call 44; (first | (with_reducible refine (squelchref30_num.calls K a ta _ JA.out).mono ?_) | (with_reducible refine (squelchref30_num.calls K b tb _ JB.out).mono ?_)); rintro e w' ⟨rfl, hb⟩; have n0_ := Aside0.mk (below_step (by repeat (first | (with_reducible first | exact HB.out | apply pw_below_drewN | apply below_drew1) | exact HB.out)) hb); have n1_ := Aside0.mk ((hb.block w.heap.size HZ.out).trans HX.out); have n2_ := Aside0.mk (Nat.lt_of_lt_of_le HZ.out hb.size); clear HB HX HZ hb k0 k1 k2 k3 k4 k5 k6 k7 k8; have HB := n0_; have HX := n1_; have HZ := n2_; clear n0_ n1_ n2_; obtain ⟨k0, k1, k2, k3, k4, k5, k6, k7, k8⟩ := cells9 HX.out)))
  all_goals first
    | (exfalso; simp only [ByteArray.size_append, hz, hz1] at *; omega)
    | (go_ret; exact ⟨rfl, by repeat (first | (with_reducible first | exact HB.out | apply pw_below_drewN | apply below_drew1) | exact HB.out)⟩)
    | trace_state
end Go.Proofs.YtndgaeldndgioaaGreatDoor.QAll
end

section
/- squelchref30.Print, walked by hand, for each kind that there is. -/
set_option linter.unusedVariables false
set_option linter.unusedSimpArgs false
namespace Go.Proofs.YtndgaeldndgioaaGreatDoor.QAll
open Go.RowKit Go.Proofs.YtndgaeldndgioaaGreatDoorW.PrintWords Go.Proofs.YtndgaeldndgioaaGreatDoorW.PrintLast Go.Proofs.YtndgaeldndgioaaGreatDoorW.PrintMore

set_option maxHeartbeats 16000000 in
set_option maxRecDepth 100000 in
theorem rprint6 (a b n m : Int) (s : ByteArray) (x y : Int) (d : ByteArray) (K : Nat) (ta : ByteArray) (tb : ByteArray) (tn : ByteArray) (tm : ByteArray) (w : World) (ha : squelchref30_num.f K a = some ta) (za : ta.size ≤ 1000) (hb : squelchref30_num.f K b = some tb) (zb : tb.size ≤ 1000) (hn : squelchref30_num.f K n = some tn) (zn : tn.size ≤ 1000) (hm : squelchref30_num.f K m = some tm) (zm : tm.size ≤ 1000) :
    Calls Tryz.prog 22 #[rV 6 a b n m s x y d] w fun e w' => e = .returned (.string ((((⟨#[83, 80, 79, 73, 76]⟩ ++ ta) ++ tb) ++ tn) ++ tm)) ∧ Below w.heap.size w w' := by
  unfold rV
  have JA := Aside0.mk ha
  clear ha
  have JB := Aside0.mk hb
  clear hb
  have JN := Aside0.mk hn
  clear hn
  have JM := Aside0.mk hm
  clear hm
  have hz : (⟨#[83, 80, 79, 73, 76]⟩ : ByteArray).size = 5 := rfl
  have hz1 : (⟨#[32]⟩ : ByteArray).size = 1 := rfl
  go_enter Tryz.func22, Tryz.ntmps22
  go_wp2_with (fail)
  have HB := Aside0.mk ((Below.refl w.heap.size w).alloc (Nat.le_refl _) (.cells #[.int .i64 6, .int .i64 a, .int .i64 b, .int .i64 n, .int .i64 m, .string s, .int .i64 x, .int .i64 y, .string d] 31 (0, 0)))
  have HX := Aside0.mk (heap_alloc_new w (.cells #[.int .i64 6, .int .i64 a, .int .i64 b, .int .i64 n, .int .i64 m, .string s, .int .i64 x, .int .i64 y, .string d] 31 (0, 0)))
  have HZ := Aside0.mk (show w.heap.size < (w.alloc (.cells #[.int .i64 6, .int .i64 a, .int .i64 b, .int .i64 n, .int .i64 m, .string s, .int .i64 x, .int .i64 y, .string d] 31 (0, 0))).heap.size by simp)
  generalize (w.alloc (.cells #[.int .i64 6, .int .i64 a, .int .i64 b, .int .i64 n, .int .i64 m, .string s, .int .i64 x, .int .i64 y, .string d] 31 (0, 0))) = w0 at HB HX HZ ⊢
  obtain ⟨k0, k1, k2, k3, k4, k5, k6, k7, k8⟩ := cells9 HX.out
  go_region_with (first | (go_at_call 18; (with_reducible refine (names_at _).mono ?_); rintro e w1 ⟨⟨g, c, rfl, hc⟩, hb⟩; have hc3 := hc 6 _ rfl; clear hc; have n0_ := Aside0.mk (below_step (by repeat (first | (with_reducible first | exact HB.out | apply pw_below_drewN | apply below_drew1) | exact HB.out)) hb); have n1_ := Aside0.mk ((hb.block w.heap.size HZ.out).trans HX.out); have n2_ := Aside0.mk (Nat.lt_of_lt_of_le HZ.out hb.size); clear HB HX HZ hb k0 k1 k2 k3 k4 k5 k6 k7 k8; have HB := n0_; have HX := n1_; have HZ := n2_; clear n0_ n1_ n2_; obtain ⟨k0, k1, k2, k3, k4, k5, k6, k7, k8⟩ := cells9 HX.out))
  all_goals clear hc3
  all_goals (go_wp2_with (first | (go_at_call 44; (first | (with_reducible refine (squelchref30_num.calls K a ta _ JA.out).mono ?_) | (with_reducible refine (squelchref30_num.calls K b tb _ JB.out).mono ?_) | (with_reducible refine (squelchref30_num.calls K n tn _ JN.out).mono ?_) | (with_reducible refine (squelchref30_num.calls K m tm _ JM.out).mono ?_)); rintro e w' ⟨rfl, hb⟩; have n0_ := Aside0.mk (below_step (by repeat (first | (with_reducible first | exact HB.out | apply pw_below_drewN | apply below_drew1) | exact HB.out)) hb); have n1_ := Aside0.mk ((hb.block w.heap.size HZ.out).trans HX.out); have n2_ := Aside0.mk (Nat.lt_of_lt_of_le HZ.out hb.size); clear HB HX HZ hb k0 k1 k2 k3 k4 k5 k6 k7 k8; have HB := n0_; have HX := n1_; have HZ := n2_; clear n0_ n1_ n2_; obtain ⟨k0, k1, k2, k3, k4, k5, k6, k7, k8⟩ := cells9 HX.out)))
  all_goals try (go_region_with (first | (go_at_call 44; (first | (with_reducible refine (squelchref30_num.calls K a ta _ JA.out).mono ?_) | (with_reducible refine (squelchref30_num.calls K b tb _ JB.out).mono ?_) | (with_reducible refine (squelchref30_num.calls K n tn _ JN.out).mono ?_) | (with_reducible refine (squelchref30_num.calls K m tm _ JM.out).mono ?_)); rintro e w' ⟨rfl, hb⟩; have n0_ := Aside0.mk (below_step (by repeat (first | (with_reducible first | exact HB.out | apply pw_below_drewN | apply below_drew1) | exact HB.out)) hb); have n1_ := Aside0.mk ((hb.block w.heap.size HZ.out).trans HX.out); have n2_ := Aside0.mk (Nat.lt_of_lt_of_le HZ.out hb.size); clear HB HX HZ hb k0 k1 k2 k3 k4 k5 k6 k7 k8; have HB := n0_; have HX := n1_; have HZ := n2_; clear n0_ n1_ n2_; obtain ⟨k0, k1, k2, k3, k4, k5, k6, k7, k8⟩ := cells9 HX.out)))
  all_goals try (go_wp2_with (first | (go_at_call 44; (first | (with_reducible refine (squelchref30_num.calls K a ta _ JA.out).mono ?_) | (with_reducible refine (squelchref30_num.calls K b tb _ JB.out).mono ?_) | (with_reducible refine (squelchref30_num.calls K n tn _ JN.out).mono ?_) | (with_reducible refine (squelchref30_num.calls K m tm _ JM.out).mono ?_)); rintro e w' ⟨rfl, hb⟩; have n0_ := Aside0.mk (below_step (by repeat (first | (with_reducible first | exact HB.out | apply pw_below_drewN | apply below_drew1) | exact HB.out)) hb); have n1_ := Aside0.mk ((hb.block w.heap.size HZ.out).trans HX.out); have n2_ := Aside0.mk (Nat.lt_of_lt_of_le HZ.out hb.size); clear HB HX HZ hb k0 k1 k2 k3 k4 k5 k6 k7 k8; have HB := n0_; have HX := n1_; have HZ := n2_; clear n0_ n1_ n2_; obtain ⟨k0, k1, k2, k3, k4, k5, k6, k7, k8⟩ := cells9 HX.out)))
  all_goals first
    | (exfalso; simp only [ByteArray.size_append, hz, hz1] at *; omega)
    | (go_ret; exact ⟨rfl, by repeat (first | (with_reducible first | exact HB.out | apply pw_below_drewN | apply below_drew1) | exact HB.out)⟩)
    | trace_state
set_option maxHeartbeats 16000000 in
set_option maxRecDepth 100000 in
theorem rprint7 (a b n m : Int) (s : ByteArray) (x y : Int) (d : ByteArray) (K : Nat) (ta : ByteArray) (tb : ByteArray) (w : World) (ha : squelchref30_num.f K a = some ta) (za : ta.size ≤ 1000) (hb : squelchref30_num.f K b = some tb) (zb : tb.size ≤ 1000) :
    Calls Tryz.prog 22 #[rV 7 a b n m s x y d] w fun e w' => e = .returned (.string ((⟨#[66, 76, 79, 67, 75]⟩ ++ ta) ++ tb)) ∧ Below w.heap.size w w' := by
  unfold rV
  have JA := Aside0.mk ha
  clear ha
  have JB := Aside0.mk hb
  clear hb
  have hz : (⟨#[66, 76, 79, 67, 75]⟩ : ByteArray).size = 5 := rfl
  have hz1 : (⟨#[32]⟩ : ByteArray).size = 1 := rfl
  go_enter Tryz.func22, Tryz.ntmps22
  go_wp2_with (fail)
  have HB := Aside0.mk ((Below.refl w.heap.size w).alloc (Nat.le_refl _) (.cells #[.int .i64 7, .int .i64 a, .int .i64 b, .int .i64 n, .int .i64 m, .string s, .int .i64 x, .int .i64 y, .string d] 31 (0, 0)))
  have HX := Aside0.mk (heap_alloc_new w (.cells #[.int .i64 7, .int .i64 a, .int .i64 b, .int .i64 n, .int .i64 m, .string s, .int .i64 x, .int .i64 y, .string d] 31 (0, 0)))
  have HZ := Aside0.mk (show w.heap.size < (w.alloc (.cells #[.int .i64 7, .int .i64 a, .int .i64 b, .int .i64 n, .int .i64 m, .string s, .int .i64 x, .int .i64 y, .string d] 31 (0, 0))).heap.size by simp)
  generalize (w.alloc (.cells #[.int .i64 7, .int .i64 a, .int .i64 b, .int .i64 n, .int .i64 m, .string s, .int .i64 x, .int .i64 y, .string d] 31 (0, 0))) = w0 at HB HX HZ ⊢
  obtain ⟨k0, k1, k2, k3, k4, k5, k6, k7, k8⟩ := cells9 HX.out
  go_region_with (first | (go_at_call 18; (with_reducible refine (names_at _).mono ?_); rintro e w1 ⟨⟨g, c, rfl, hc⟩, hb⟩; have hc3 := hc 7 _ rfl; clear hc; have n0_ := Aside0.mk (below_step (by repeat (first | (with_reducible first | exact HB.out | apply pw_below_drewN | apply below_drew1) | exact HB.out)) hb); have n1_ := Aside0.mk ((hb.block w.heap.size HZ.out).trans HX.out); have n2_ := Aside0.mk (Nat.lt_of_lt_of_le HZ.out hb.size); clear HB HX HZ hb k0 k1 k2 k3 k4 k5 k6 k7 k8; have HB := n0_; have HX := n1_; have HZ := n2_; clear n0_ n1_ n2_; obtain ⟨k0, k1, k2, k3, k4, k5, k6, k7, k8⟩ := cells9 HX.out))
  all_goals clear hc3
  all_goals (go_wp2_with (first | (go_at_call 44; (first | (with_reducible refine (squelchref30_num.calls K a ta _ JA.out).mono ?_) | (with_reducible refine (squelchref30_num.calls K b tb _ JB.out).mono ?_)); rintro e w' ⟨rfl, hb⟩; have n0_ := Aside0.mk (below_step (by repeat (first | (with_reducible first | exact HB.out | apply pw_below_drewN | apply below_drew1) | exact HB.out)) hb); have n1_ := Aside0.mk ((hb.block w.heap.size HZ.out).trans HX.out); have n2_ := Aside0.mk (Nat.lt_of_lt_of_le HZ.out hb.size); clear HB HX HZ hb k0 k1 k2 k3 k4 k5 k6 k7 k8; have HB := n0_; have HX := n1_; have HZ := n2_; clear n0_ n1_ n2_; obtain ⟨k0, k1, k2, k3, k4, k5, k6, k7, k8⟩ := cells9 HX.out)))
  all_goals first
    | (exfalso; simp only [ByteArray.size_append, hz, hz1] at *; omega)
    | (go_ret; exact ⟨rfl, by repeat (first | (with_reducible first | exact HB.out | apply pw_below_drewN | apply below_drew1) | exact HB.out)⟩)
    | trace_state
end Go.Proofs.YtndgaeldndgioaaGreatDoor.QAll
end

section
/- squelchref30.Print, walked by hand, for each kind that there is. -/
set_option linter.unusedVariables false
set_option linter.unusedSimpArgs false
namespace Go.Proofs.YtndgaeldndgioaaGreatDoor.QAll
open Go.RowKit Go.Proofs.YtndgaeldndgioaaGreatDoorW.PrintWords Go.Proofs.YtndgaeldndgioaaGreatDoorW.PrintLast Go.Proofs.YtndgaeldndgioaaGreatDoorW.PrintMore

set_option maxHeartbeats 16000000 in
set_option maxRecDepth 100000 in
theorem rprint8 (a b n m : Int) (s : ByteArray) (x y : Int) (d : ByteArray) (K : Nat) (ta : ByteArray) (tb : ByteArray) (w : World) (ha : squelchref30_num.f K a = some ta) (za : ta.size ≤ 1000) (hb : squelchref30_num.f K b = some tb) (zb : tb.size ≤ 1000) :
    Calls Tryz.prog 22 #[rV 8 a b n m s x y d] w fun e w' => e = .returned (.string ((⟨#[79, 80, 69, 78]⟩ ++ ta) ++ tb)) ∧ Below w.heap.size w w' := by
  unfold rV
  have JA := Aside0.mk ha
  clear ha
  have JB := Aside0.mk hb
  clear hb
  have hz : (⟨#[79, 80, 69, 78]⟩ : ByteArray).size = 4 := rfl
  have hz1 : (⟨#[32]⟩ : ByteArray).size = 1 := rfl
  go_enter Tryz.func22, Tryz.ntmps22
  go_wp2_with (fail)
  have HB := Aside0.mk ((Below.refl w.heap.size w).alloc (Nat.le_refl _) (.cells #[.int .i64 8, .int .i64 a, .int .i64 b, .int .i64 n, .int .i64 m, .string s, .int .i64 x, .int .i64 y, .string d] 31 (0, 0)))
  have HX := Aside0.mk (heap_alloc_new w (.cells #[.int .i64 8, .int .i64 a, .int .i64 b, .int .i64 n, .int .i64 m, .string s, .int .i64 x, .int .i64 y, .string d] 31 (0, 0)))
  have HZ := Aside0.mk (show w.heap.size < (w.alloc (.cells #[.int .i64 8, .int .i64 a, .int .i64 b, .int .i64 n, .int .i64 m, .string s, .int .i64 x, .int .i64 y, .string d] 31 (0, 0))).heap.size by simp)
  generalize (w.alloc (.cells #[.int .i64 8, .int .i64 a, .int .i64 b, .int .i64 n, .int .i64 m, .string s, .int .i64 x, .int .i64 y, .string d] 31 (0, 0))) = w0 at HB HX HZ ⊢
  obtain ⟨k0, k1, k2, k3, k4, k5, k6, k7, k8⟩ := cells9 HX.out
  go_region_with (first | (go_at_call 18; (with_reducible refine (names_at _).mono ?_); rintro e w1 ⟨⟨g, c, rfl, hc⟩, hb⟩; have hc3 := hc 8 _ rfl; clear hc; have n0_ := Aside0.mk (below_step (by repeat (first | (with_reducible first | exact HB.out | apply pw_below_drewN | apply below_drew1) | exact HB.out)) hb); have n1_ := Aside0.mk ((hb.block w.heap.size HZ.out).trans HX.out); have n2_ := Aside0.mk (Nat.lt_of_lt_of_le HZ.out hb.size); clear HB HX HZ hb k0 k1 k2 k3 k4 k5 k6 k7 k8; have HB := n0_; have HX := n1_; have HZ := n2_; clear n0_ n1_ n2_; obtain ⟨k0, k1, k2, k3, k4, k5, k6, k7, k8⟩ := cells9 HX.out))
  all_goals clear hc3
  all_goals (go_wp2_with (first | (go_at_call 44; (first | (with_reducible refine (squelchref30_num.calls K a ta _ JA.out).mono ?_) | (with_reducible refine (squelchref30_num.calls K b tb _ JB.out).mono ?_)); rintro e w' ⟨rfl, hb⟩; have n0_ := Aside0.mk (below_step (by repeat (first | (with_reducible first | exact HB.out | apply pw_below_drewN | apply below_drew1) | exact HB.out)) hb); have n1_ := Aside0.mk ((hb.block w.heap.size HZ.out).trans HX.out); have n2_ := Aside0.mk (Nat.lt_of_lt_of_le HZ.out hb.size); clear HB HX HZ hb k0 k1 k2 k3 k4 k5 k6 k7 k8; have HB := n0_; have HX := n1_; have HZ := n2_; clear n0_ n1_ n2_; obtain ⟨k0, k1, k2, k3, k4, k5, k6, k7, k8⟩ := cells9 HX.out)))
  all_goals first
    | (exfalso; simp only [ByteArray.size_append, hz, hz1] at *; omega)
    | (go_ret; exact ⟨rfl, by repeat (first | (with_reducible first | exact HB.out | apply pw_below_drewN | apply below_drew1) | exact HB.out)⟩)
    | trace_state
set_option maxHeartbeats 16000000 in
set_option maxRecDepth 100000 in
theorem rprint9 (a b n m : Int) (s : ByteArray) (x y : Int) (d : ByteArray) (K : Nat) (ta : ByteArray) (tx : ByteArray) (ty : ByteArray) (tn : ByteArray) (w : World) (ha : squelchref30_num.f K a = some ta) (za : ta.size ≤ 1000) (hx : squelchref30_num.f K x = some tx) (zx : tx.size ≤ 1000) (hy : squelchref30_num.f K y = some ty) (zy : ty.size ≤ 1000) (hn : squelchref30_num.f K n = some tn) (zn : tn.size ≤ 1000) :
    Calls Tryz.prog 22 #[rV 9 a b n m s x y d] w fun e w' => e = .returned (.string ((((⟨#[83, 84, 65, 78, 68]⟩ ++ ta) ++ tx) ++ ty) ++ tn)) ∧ Below w.heap.size w w' := by
  unfold rV
  have JA := Aside0.mk ha
  clear ha
  have JX := Aside0.mk hx
  clear hx
  have JY := Aside0.mk hy
  clear hy
  have JN := Aside0.mk hn
  clear hn
  have hz : (⟨#[83, 84, 65, 78, 68]⟩ : ByteArray).size = 5 := rfl
  have hz1 : (⟨#[32]⟩ : ByteArray).size = 1 := rfl
  go_enter Tryz.func22, Tryz.ntmps22
  go_wp2_with (fail)
  have HB := Aside0.mk ((Below.refl w.heap.size w).alloc (Nat.le_refl _) (.cells #[.int .i64 9, .int .i64 a, .int .i64 b, .int .i64 n, .int .i64 m, .string s, .int .i64 x, .int .i64 y, .string d] 31 (0, 0)))
  have HX := Aside0.mk (heap_alloc_new w (.cells #[.int .i64 9, .int .i64 a, .int .i64 b, .int .i64 n, .int .i64 m, .string s, .int .i64 x, .int .i64 y, .string d] 31 (0, 0)))
  have HZ := Aside0.mk (show w.heap.size < (w.alloc (.cells #[.int .i64 9, .int .i64 a, .int .i64 b, .int .i64 n, .int .i64 m, .string s, .int .i64 x, .int .i64 y, .string d] 31 (0, 0))).heap.size by simp)
  generalize (w.alloc (.cells #[.int .i64 9, .int .i64 a, .int .i64 b, .int .i64 n, .int .i64 m, .string s, .int .i64 x, .int .i64 y, .string d] 31 (0, 0))) = w0 at HB HX HZ ⊢
  obtain ⟨k0, k1, k2, k3, k4, k5, k6, k7, k8⟩ := cells9 HX.out
  go_region_with (first | (go_at_call 18; (with_reducible refine (names_at _).mono ?_); rintro e w1 ⟨⟨g, c, rfl, hc⟩, hb⟩; have hc3 := hc 9 _ rfl; clear hc; have n0_ := Aside0.mk (below_step (by repeat (first | (with_reducible first | exact HB.out | apply pw_below_drewN | apply below_drew1) | exact HB.out)) hb); have n1_ := Aside0.mk ((hb.block w.heap.size HZ.out).trans HX.out); have n2_ := Aside0.mk (Nat.lt_of_lt_of_le HZ.out hb.size); clear HB HX HZ hb k0 k1 k2 k3 k4 k5 k6 k7 k8; have HB := n0_; have HX := n1_; have HZ := n2_; clear n0_ n1_ n2_; obtain ⟨k0, k1, k2, k3, k4, k5, k6, k7, k8⟩ := cells9 HX.out))
  all_goals clear hc3
  all_goals (go_wp2_with (first | (go_at_call 44; (first | (with_reducible refine (squelchref30_num.calls K a ta _ JA.out).mono ?_) | (with_reducible refine (squelchref30_num.calls K x tx _ JX.out).mono ?_) | (with_reducible refine (squelchref30_num.calls K y ty _ JY.out).mono ?_) | (with_reducible refine (squelchref30_num.calls K n tn _ JN.out).mono ?_)); rintro e w' ⟨rfl, hb⟩; have n0_ := Aside0.mk (below_step (by repeat (first | (with_reducible first | exact HB.out | apply pw_below_drewN | apply below_drew1) | exact HB.out)) hb); have n1_ := Aside0.mk ((hb.block w.heap.size HZ.out).trans HX.out); have n2_ := Aside0.mk (Nat.lt_of_lt_of_le HZ.out hb.size); clear HB HX HZ hb k0 k1 k2 k3 k4 k5 k6 k7 k8; have HB := n0_; have HX := n1_; have HZ := n2_; clear n0_ n1_ n2_; obtain ⟨k0, k1, k2, k3, k4, k5, k6, k7, k8⟩ := cells9 HX.out)))
  all_goals try (go_region_with (first | (go_at_call 44; (first | (with_reducible refine (squelchref30_num.calls K a ta _ JA.out).mono ?_) | (with_reducible refine (squelchref30_num.calls K x tx _ JX.out).mono ?_) | (with_reducible refine (squelchref30_num.calls K y ty _ JY.out).mono ?_) | (with_reducible refine (squelchref30_num.calls K n tn _ JN.out).mono ?_)); rintro e w' ⟨rfl, hb⟩; have n0_ := Aside0.mk (below_step (by repeat (first | (with_reducible first | exact HB.out | apply pw_below_drewN | apply below_drew1) | exact HB.out)) hb); have n1_ := Aside0.mk ((hb.block w.heap.size HZ.out).trans HX.out); have n2_ := Aside0.mk (Nat.lt_of_lt_of_le HZ.out hb.size); clear HB HX HZ hb k0 k1 k2 k3 k4 k5 k6 k7 k8; have HB := n0_; have HX := n1_; have HZ := n2_; clear n0_ n1_ n2_; obtain ⟨k0, k1, k2, k3, k4, k5, k6, k7, k8⟩ := cells9 HX.out)))
  all_goals try (go_wp2_with (first | (go_at_call 44; (first | (with_reducible refine (squelchref30_num.calls K a ta _ JA.out).mono ?_) | (with_reducible refine (squelchref30_num.calls K x tx _ JX.out).mono ?_) | (with_reducible refine (squelchref30_num.calls K y ty _ JY.out).mono ?_) | (with_reducible refine (squelchref30_num.calls K n tn _ JN.out).mono ?_)); rintro e w' ⟨rfl, hb⟩; have n0_ := Aside0.mk (below_step (by repeat (first | (with_reducible first | exact HB.out | apply pw_below_drewN | apply below_drew1) | exact HB.out)) hb); have n1_ := Aside0.mk ((hb.block w.heap.size HZ.out).trans HX.out); have n2_ := Aside0.mk (Nat.lt_of_lt_of_le HZ.out hb.size); clear HB HX HZ hb k0 k1 k2 k3 k4 k5 k6 k7 k8; have HB := n0_; have HX := n1_; have HZ := n2_; clear n0_ n1_ n2_; obtain ⟨k0, k1, k2, k3, k4, k5, k6, k7, k8⟩ := cells9 HX.out)))
  all_goals first
    | (exfalso; simp only [ByteArray.size_append, hz, hz1] at *; omega)
    | (go_ret; exact ⟨rfl, by repeat (first | (with_reducible first | exact HB.out | apply pw_below_drewN | apply below_drew1) | exact HB.out)⟩)
    | trace_state
end Go.Proofs.YtndgaeldndgioaaGreatDoor.QAll
end

section
/- squelchref30.Print, walked by hand, for each kind that there is. -/
set_option linter.unusedVariables false
set_option linter.unusedSimpArgs false
namespace Go.Proofs.YtndgaeldndgioaaGreatDoor.QAll
open Go.RowKit Go.Proofs.YtndgaeldndgioaaGreatDoorW.PrintWords Go.Proofs.YtndgaeldndgioaaGreatDoorW.PrintLast Go.Proofs.YtndgaeldndgioaaGreatDoorW.PrintMore

set_option maxHeartbeats 16000000 in
set_option maxRecDepth 100000 in
theorem rprint10 (a b n m : Int) (s : ByteArray) (x y : Int) (d : ByteArray) (K : Nat) (ta : ByteArray) (tx : ByteArray) (ty : ByteArray) (w : World) (ha : squelchref30_num.f K a = some ta) (za : ta.size ≤ 1000) (hx : squelchref30_num.f K x = some tx) (zx : tx.size ≤ 1000) (hy : squelchref30_num.f K y = some ty) (zy : ty.size ≤ 1000) :
    Calls Tryz.prog 22 #[rV 10 a b n m s x y d] w fun e w' => e = .returned (.string (((⟨#[77, 79, 86, 69]⟩ ++ ta) ++ tx) ++ ty)) ∧ Below w.heap.size w w' := by
  unfold rV
  have JA := Aside0.mk ha
  clear ha
  have JX := Aside0.mk hx
  clear hx
  have JY := Aside0.mk hy
  clear hy
  have hz : (⟨#[77, 79, 86, 69]⟩ : ByteArray).size = 4 := rfl
  have hz1 : (⟨#[32]⟩ : ByteArray).size = 1 := rfl
  go_enter Tryz.func22, Tryz.ntmps22
  go_wp2_with (fail)
  have HB := Aside0.mk ((Below.refl w.heap.size w).alloc (Nat.le_refl _) (.cells #[.int .i64 10, .int .i64 a, .int .i64 b, .int .i64 n, .int .i64 m, .string s, .int .i64 x, .int .i64 y, .string d] 31 (0, 0)))
  have HX := Aside0.mk (heap_alloc_new w (.cells #[.int .i64 10, .int .i64 a, .int .i64 b, .int .i64 n, .int .i64 m, .string s, .int .i64 x, .int .i64 y, .string d] 31 (0, 0)))
  have HZ := Aside0.mk (show w.heap.size < (w.alloc (.cells #[.int .i64 10, .int .i64 a, .int .i64 b, .int .i64 n, .int .i64 m, .string s, .int .i64 x, .int .i64 y, .string d] 31 (0, 0))).heap.size by simp)
  generalize (w.alloc (.cells #[.int .i64 10, .int .i64 a, .int .i64 b, .int .i64 n, .int .i64 m, .string s, .int .i64 x, .int .i64 y, .string d] 31 (0, 0))) = w0 at HB HX HZ ⊢
  obtain ⟨k0, k1, k2, k3, k4, k5, k6, k7, k8⟩ := cells9 HX.out
  go_region_with (first | (go_at_call 18; (with_reducible refine (names_at _).mono ?_); rintro e w1 ⟨⟨g, c, rfl, hc⟩, hb⟩; have hc3 := hc 10 _ rfl; clear hc; have n0_ := Aside0.mk (below_step (by repeat (first | (with_reducible first | exact HB.out | apply pw_below_drewN | apply below_drew1) | exact HB.out)) hb); have n1_ := Aside0.mk ((hb.block w.heap.size HZ.out).trans HX.out); have n2_ := Aside0.mk (Nat.lt_of_lt_of_le HZ.out hb.size); clear HB HX HZ hb k0 k1 k2 k3 k4 k5 k6 k7 k8; have HB := n0_; have HX := n1_; have HZ := n2_; clear n0_ n1_ n2_; obtain ⟨k0, k1, k2, k3, k4, k5, k6, k7, k8⟩ := cells9 HX.out))
  all_goals clear hc3
  all_goals (go_wp2_with (first | (go_at_call 44; (first | (with_reducible refine (squelchref30_num.calls K a ta _ JA.out).mono ?_) | (with_reducible refine (squelchref30_num.calls K x tx _ JX.out).mono ?_) | (with_reducible refine (squelchref30_num.calls K y ty _ JY.out).mono ?_)); rintro e w' ⟨rfl, hb⟩; have n0_ := Aside0.mk (below_step (by repeat (first | (with_reducible first | exact HB.out | apply pw_below_drewN | apply below_drew1) | exact HB.out)) hb); have n1_ := Aside0.mk ((hb.block w.heap.size HZ.out).trans HX.out); have n2_ := Aside0.mk (Nat.lt_of_lt_of_le HZ.out hb.size); clear HB HX HZ hb k0 k1 k2 k3 k4 k5 k6 k7 k8; have HB := n0_; have HX := n1_; have HZ := n2_; clear n0_ n1_ n2_; obtain ⟨k0, k1, k2, k3, k4, k5, k6, k7, k8⟩ := cells9 HX.out)))
  all_goals try (go_region_with (first | (go_at_call 44; (first | (with_reducible refine (squelchref30_num.calls K a ta _ JA.out).mono ?_) | (with_reducible refine (squelchref30_num.calls K x tx _ JX.out).mono ?_) | (with_reducible refine (squelchref30_num.calls K y ty _ JY.out).mono ?_)); rintro e w' ⟨rfl, hb⟩; have n0_ := Aside0.mk (below_step (by repeat (first | (with_reducible first | exact HB.out | apply pw_below_drewN | apply below_drew1) | exact HB.out)) hb); have n1_ := Aside0.mk ((hb.block w.heap.size HZ.out).trans HX.out); have n2_ := Aside0.mk (Nat.lt_of_lt_of_le HZ.out hb.size); clear HB HX HZ hb k0 k1 k2 k3 k4 k5 k6 k7 k8; have HB := n0_; have HX := n1_; have HZ := n2_; clear n0_ n1_ n2_; obtain ⟨k0, k1, k2, k3, k4, k5, k6, k7, k8⟩ := cells9 HX.out)))
  all_goals try (go_wp2_with (first | (go_at_call 44; (first | (with_reducible refine (squelchref30_num.calls K a ta _ JA.out).mono ?_) | (with_reducible refine (squelchref30_num.calls K x tx _ JX.out).mono ?_) | (with_reducible refine (squelchref30_num.calls K y ty _ JY.out).mono ?_)); rintro e w' ⟨rfl, hb⟩; have n0_ := Aside0.mk (below_step (by repeat (first | (with_reducible first | exact HB.out | apply pw_below_drewN | apply below_drew1) | exact HB.out)) hb); have n1_ := Aside0.mk ((hb.block w.heap.size HZ.out).trans HX.out); have n2_ := Aside0.mk (Nat.lt_of_lt_of_le HZ.out hb.size); clear HB HX HZ hb k0 k1 k2 k3 k4 k5 k6 k7 k8; have HB := n0_; have HX := n1_; have HZ := n2_; clear n0_ n1_ n2_; obtain ⟨k0, k1, k2, k3, k4, k5, k6, k7, k8⟩ := cells9 HX.out)))
  all_goals first
    | (exfalso; simp only [ByteArray.size_append, hz, hz1] at *; omega)
    | (go_ret; exact ⟨rfl, by repeat (first | (with_reducible first | exact HB.out | apply pw_below_drewN | apply below_drew1) | exact HB.out)⟩)
    | trace_state
set_option maxHeartbeats 16000000 in
set_option maxRecDepth 100000 in
theorem rprint11 (a b n m : Int) (s : ByteArray) (x y : Int) (d : ByteArray) (K : Nat) (ta : ByteArray) (tx : ByteArray) (ty : ByteArray) (w : World) (ha : squelchref30_num.f K a = some ta) (za : ta.size ≤ 1000) (hx : squelchref30_num.f K x = some tx) (zx : tx.size ≤ 1000) (hy : squelchref30_num.f K y = some ty) (zy : ty.size ≤ 1000) :
    Calls Tryz.prog 22 #[rV 11 a b n m s x y d] w fun e w' => e = .returned (.string (((⟨#[84, 85, 82, 78]⟩ ++ ta) ++ tx) ++ ty)) ∧ Below w.heap.size w w' := by
  unfold rV
  have JA := Aside0.mk ha
  clear ha
  have JX := Aside0.mk hx
  clear hx
  have JY := Aside0.mk hy
  clear hy
  have hz : (⟨#[84, 85, 82, 78]⟩ : ByteArray).size = 4 := rfl
  have hz1 : (⟨#[32]⟩ : ByteArray).size = 1 := rfl
  go_enter Tryz.func22, Tryz.ntmps22
  go_wp2_with (fail)
  have HB := Aside0.mk ((Below.refl w.heap.size w).alloc (Nat.le_refl _) (.cells #[.int .i64 11, .int .i64 a, .int .i64 b, .int .i64 n, .int .i64 m, .string s, .int .i64 x, .int .i64 y, .string d] 31 (0, 0)))
  have HX := Aside0.mk (heap_alloc_new w (.cells #[.int .i64 11, .int .i64 a, .int .i64 b, .int .i64 n, .int .i64 m, .string s, .int .i64 x, .int .i64 y, .string d] 31 (0, 0)))
  have HZ := Aside0.mk (show w.heap.size < (w.alloc (.cells #[.int .i64 11, .int .i64 a, .int .i64 b, .int .i64 n, .int .i64 m, .string s, .int .i64 x, .int .i64 y, .string d] 31 (0, 0))).heap.size by simp)
  generalize (w.alloc (.cells #[.int .i64 11, .int .i64 a, .int .i64 b, .int .i64 n, .int .i64 m, .string s, .int .i64 x, .int .i64 y, .string d] 31 (0, 0))) = w0 at HB HX HZ ⊢
  obtain ⟨k0, k1, k2, k3, k4, k5, k6, k7, k8⟩ := cells9 HX.out
  go_region_with (first | (go_at_call 18; (with_reducible refine (names_at _).mono ?_); rintro e w1 ⟨⟨g, c, rfl, hc⟩, hb⟩; have hc3 := hc 11 _ rfl; clear hc; have n0_ := Aside0.mk (below_step (by repeat (first | (with_reducible first | exact HB.out | apply pw_below_drewN | apply below_drew1) | exact HB.out)) hb); have n1_ := Aside0.mk ((hb.block w.heap.size HZ.out).trans HX.out); have n2_ := Aside0.mk (Nat.lt_of_lt_of_le HZ.out hb.size); clear HB HX HZ hb k0 k1 k2 k3 k4 k5 k6 k7 k8; have HB := n0_; have HX := n1_; have HZ := n2_; clear n0_ n1_ n2_; obtain ⟨k0, k1, k2, k3, k4, k5, k6, k7, k8⟩ := cells9 HX.out))
  all_goals clear hc3
  all_goals (go_wp2_with (first | (go_at_call 44; (first | (with_reducible refine (squelchref30_num.calls K a ta _ JA.out).mono ?_) | (with_reducible refine (squelchref30_num.calls K x tx _ JX.out).mono ?_) | (with_reducible refine (squelchref30_num.calls K y ty _ JY.out).mono ?_)); rintro e w' ⟨rfl, hb⟩; have n0_ := Aside0.mk (below_step (by repeat (first | (with_reducible first | exact HB.out | apply pw_below_drewN | apply below_drew1) | exact HB.out)) hb); have n1_ := Aside0.mk ((hb.block w.heap.size HZ.out).trans HX.out); have n2_ := Aside0.mk (Nat.lt_of_lt_of_le HZ.out hb.size); clear HB HX HZ hb k0 k1 k2 k3 k4 k5 k6 k7 k8; have HB := n0_; have HX := n1_; have HZ := n2_; clear n0_ n1_ n2_; obtain ⟨k0, k1, k2, k3, k4, k5, k6, k7, k8⟩ := cells9 HX.out)))
  all_goals try (go_region_with (first | (go_at_call 44; (first | (with_reducible refine (squelchref30_num.calls K a ta _ JA.out).mono ?_) | (with_reducible refine (squelchref30_num.calls K x tx _ JX.out).mono ?_) | (with_reducible refine (squelchref30_num.calls K y ty _ JY.out).mono ?_)); rintro e w' ⟨rfl, hb⟩; have n0_ := Aside0.mk (below_step (by repeat (first | (with_reducible first | exact HB.out | apply pw_below_drewN | apply below_drew1) | exact HB.out)) hb); have n1_ := Aside0.mk ((hb.block w.heap.size HZ.out).trans HX.out); have n2_ := Aside0.mk (Nat.lt_of_lt_of_le HZ.out hb.size); clear HB HX HZ hb k0 k1 k2 k3 k4 k5 k6 k7 k8; have HB := n0_; have HX := n1_; have HZ := n2_; clear n0_ n1_ n2_; obtain ⟨k0, k1, k2, k3, k4, k5, k6, k7, k8⟩ := cells9 HX.out)))
  all_goals try (go_wp2_with (first | (go_at_call 44; (first | (with_reducible refine (squelchref30_num.calls K a ta _ JA.out).mono ?_) | (with_reducible refine (squelchref30_num.calls K x tx _ JX.out).mono ?_) | (with_reducible refine (squelchref30_num.calls K y ty _ JY.out).mono ?_)); rintro e w' ⟨rfl, hb⟩; have n0_ := Aside0.mk (below_step (by repeat (first | (with_reducible first | exact HB.out | apply pw_below_drewN | apply below_drew1) | exact HB.out)) hb); have n1_ := Aside0.mk ((hb.block w.heap.size HZ.out).trans HX.out); have n2_ := Aside0.mk (Nat.lt_of_lt_of_le HZ.out hb.size); clear HB HX HZ hb k0 k1 k2 k3 k4 k5 k6 k7 k8; have HB := n0_; have HX := n1_; have HZ := n2_; clear n0_ n1_ n2_; obtain ⟨k0, k1, k2, k3, k4, k5, k6, k7, k8⟩ := cells9 HX.out)))
  all_goals first
    | (exfalso; simp only [ByteArray.size_append, hz, hz1] at *; omega)
    | (go_ret; exact ⟨rfl, by repeat (first | (with_reducible first | exact HB.out | apply pw_below_drewN | apply below_drew1) | exact HB.out)⟩)
    | trace_state
end Go.Proofs.YtndgaeldndgioaaGreatDoor.QAll
end

section
/- squelchref30.Print of a tick, walked by hand. -/
set_option linter.unusedVariables false
set_option linter.unusedSimpArgs false
namespace Go.Proofs.YtndgaeldndgioaaGreatDoor.QAll
open Go.RowKit Go.Proofs.YtndgaeldndgioaaGreatDoorW.PrintWords Go.Proofs.YtndgaeldndgioaaGreatDoorW.PrintLast Go.Proofs.YtndgaeldndgioaaGreatDoorW.PrintMore

/-- The digits of the first k of a row of bytes. -/
def hexN (d : ByteArray) (k : Nat) : ByteArray := ⟨(((bytesOf d).take k).flatMap fun c => (twoS c).data.toList).toArray⟩
theorem hexN_succ (d : ByteArray) (k : Nat) (hk : k < d.size) : hexN d (k + 1) = hexN d k ++ twoS (bt d k) := by
  have h : ∀ a b : ByteArray, a.data.toList = b.data.toList → a = b := fun a b h => by
    obtain ⟨a⟩ := a
    obtain ⟨b⟩ := b
    congr 1
    exact Array.ext' h
  apply h
  unfold hexN
  rw [List.take_succ_eq_append_getElem (by rw [bytesOf_length]; exact hk), List.flatMap_append, bytesOf_at d k hk]
  simp
theorem hexN_size (d : ByteArray) : ∀ k, k ≤ d.size → (hexN d k).size = 2 * k
  | 0, _ => rfl
  | k + 1, h => by
    have hb := bt_range d k
    rw [hexN_succ d k (by omega), ByteArray.size_append, hexN_size d k (by omega), two_size _ (by omega) (by omega)]
    omega
set_option maxHeartbeats 16000000 in
set_option maxRecDepth 100000 in
theorem rprint4 (a b n m : Int) (s : ByteArray) (x y : Int) (d : ByteArray) (w : World) (hd : d.size ≤ 1000000) :
    Calls Tryz.prog 22 #[rV 4 a b n m s x y d] w fun e w' => e = .returned (.string ((⟨#[84, 73, 67, 75]⟩ ++ ⟨#[32, 35]⟩) ++ hexN d d.size)) ∧ Below w.heap.size w w' := by
  unfold rV
  have hz : (⟨#[84, 73, 67, 75]⟩ : ByteArray).size = 4 := rfl
  have hz2 : (⟨#[32, 35]⟩ : ByteArray).size = 2 := rfl
  go_enter Tryz.func22, Tryz.ntmps22
  go_wp2_with (fail)
  have HB := Aside0.mk ((Below.refl w.heap.size w).alloc (Nat.le_refl _) (.cells #[.int .i64 4, .int .i64 a, .int .i64 b, .int .i64 n, .int .i64 m, .string s, .int .i64 x, .int .i64 y, .string d] 31 (0, 0)))
  have HX := Aside0.mk (heap_alloc_new w (.cells #[.int .i64 4, .int .i64 a, .int .i64 b, .int .i64 n, .int .i64 m, .string s, .int .i64 x, .int .i64 y, .string d] 31 (0, 0)))
  have HZ := Aside0.mk (show w.heap.size < (w.alloc (.cells #[.int .i64 4, .int .i64 a, .int .i64 b, .int .i64 n, .int .i64 m, .string s, .int .i64 x, .int .i64 y, .string d] 31 (0, 0))).heap.size by simp)
  generalize (w.alloc (.cells #[.int .i64 4, .int .i64 a, .int .i64 b, .int .i64 n, .int .i64 m, .string s, .int .i64 x, .int .i64 y, .string d] 31 (0, 0))) = w0 at HB HX HZ ⊢
  obtain ⟨k0, k1, k2, k3, k4, k5, k6, k7, k8⟩ := cells9 HX.out
  go_region_with (first | (go_at_call 18; (with_reducible refine (names_at _).mono ?_); rintro e w1 ⟨⟨g, c, rfl, hc⟩, hb⟩; have hc3 := hc 4 _ rfl; clear hc; have n0_ := Aside0.mk (below_step (by repeat (first | (with_reducible first | exact HB.out | apply pw_below_drewN | apply below_drew1) | exact HB.out)) hb); have n1_ := Aside0.mk ((hb.block w.heap.size HZ.out).trans HX.out); have n2_ := Aside0.mk (Nat.lt_of_lt_of_le HZ.out hb.size); clear HB HX HZ hb k0 k1 k2 k3 k4 k5 k6 k7 k8; have HB := n0_; have HX := n1_; have HZ := n2_; clear n0_ n1_ n2_; obtain ⟨k0, k1, k2, k3, k4, k5, k6, k7, k8⟩ := cells9 HX.out))
  all_goals clear hc3
  all_goals go_wp2_with (fail)
  all_goals
    go_loopw [3, 4] (fun v3 v4 wr => ∃ k : Nat, k ≤ d.size ∧ v3 = .string ((⟨#[84, 73, 67, 75]⟩ ++ ⟨#[32, 35]⟩) ++ hexN d k) ∧ v4 = .int .i64 k ∧ Aside0 (Below w.heap.size w wr) ∧ Aside0 (wr.heap[w.heap.size]? = some (.cells #[.int .i64 4, .int .i64 a, .int .i64 b, .int .i64 n, .int .i64 m, .string s, .int .i64 x, .int .i64 y, .string d] 31 (0, 0)))) (fun _ v4 _ => d.size - (intOf v4).toNat)
    case atStart => exact ⟨0, Nat.zero_le _, by rfl, rfl, HB, HX⟩
    case round =>
      obtain ⟨k, hk, rfl, rfl, HB1, HX1⟩ := hrel
      clear HB HX HZ k0 k1 k2 k3 k4 k5 k6 k7 k8
      obtain ⟨k0, k1, k2, k3, k4, k5, k6, k7, k8⟩ := cells9 HX1.out
      have hsz := hexN_size d k hk
      have hs4 : ((⟨#[84, 73, 67, 75]⟩ ++ ⟨#[32, 35]⟩ ++ hexN d k : ByteArray)).size = 6 + 2 * k := by simp only [ByteArray.size_append, hz, hz2, hsz]
      by_cases hlt : k < d.size
      · have hbr := bt_range d k
        have hsz2 := two_size (bt d k) hbr.1 (by omega)
        have hi0 : (0 : Int) ≤ k := by omega
        have hi1 : (k : Int) < d.size := by omega
        have hbt : (((d[k]'hlt).toNat : Nat) : Int) = bt d k := by
          unfold bt
          rw [dif_pos (by simpa using hlt)]
          rfl
        go_wp2_with (first | (go_at_call 54; (with_reducible refine (squelchref30_two.calls (bt d k) (twoS (bt d k)) _ (by unfold squelchref30_two.f; rw [if_pos ⟨hbr.1, by omega⟩])).mono ?_); rintro e w2 ⟨rfl, ⟨nd, rfl⟩⟩))
        go_roundw
        case rel => exact ⟨k + 1, by omega, by rw [hexN_succ d k hlt, ByteArray.append_assoc], by go_num, ⟨pw_below_drewN HB1.out _⟩, HX1⟩
        case measure => simp [intOf]; omega
      · obtain rfl : k = d.size := by omega
        go_wp2_with (fail)
        go_ret
        exact ⟨rfl, HB1.out⟩
end Go.Proofs.YtndgaeldndgioaaGreatDoor.QAll
end

section
/- squelchref30.Print, walked by hand: the line of an event of a kind that there is. -/
set_option linter.unusedVariables false
set_option linter.unusedSimpArgs false
namespace Go.Proofs.YtndgaeldndgioaaGreatDoor.QAll
open Go.RowKit Go.Proofs.YtndgaeldndgioaaGreatDoorW.PrintWords Go.Proofs.YtndgaeldndgioaaGreatDoorW.PrintLast Go.Proofs.YtndgaeldndgioaaGreatDoorW.PrintMore

/-- A number's word, if it is no long one. -/
def numT (n : Int) : Option ByteArray := (squelchref30_num.f 60 n).bind fun t => if t.size ≤ 1000 then some t else none
def textT (s : ByteArray) : Option ByteArray := (squelchref30_text.f (s.size + 2) s).bind fun t => if t.size ≤ 1000000 then some t else none
theorem numT_some {n : Int} {t : ByteArray} (h : numT n = some t) : squelchref30_num.f 60 n = some t ∧ t.size ≤ 1000 := by
  unfold numT at h
  obtain ⟨u, hu, h⟩ := Option.bind_eq_some_iff.1 h
  split at h
  · rename_i hs
    obtain rfl := Option.some.inj h
    exact ⟨hu, hs⟩
  · cases h
theorem textT_some {s t : ByteArray} (h : textT s = some t) : squelchref30_text.f (s.size + 2) s = some t ∧ t.size ≤ 1000000 := by
  unfold textT at h
  obtain ⟨u, hu, h⟩ := Option.bind_eq_some_iff.1 h
  split at h
  · rename_i hs
    obtain rfl := Option.some.inj h
    exact ⟨hu, hs⟩
  · cases h

def squelchref30_Print.f (k a b n m : Int) (s : ByteArray) (x y : Int) (d : ByteArray) : Option ByteArray := if k = 4 then (if d.size ≤ 1000000 then some ((⟨#[84, 73, 67, 75]⟩ ++ ⟨#[32, 35]⟩) ++ hexN d d.size) else none) else (if k = 1 then ((numT a).bind fun ta => (textT s).bind fun tt => some (((⟨#[75, 69, 89, 83]⟩ ++ ta) ++ ⟨#[32]⟩) ++ tt)) else (if k = 2 then ((numT a).bind fun ta => (textT s).bind fun tt => some (((⟨#[75, 73, 83, 83]⟩ ++ ta) ++ ⟨#[32]⟩) ++ tt)) else (if k = 3 then ((numT a).bind fun ta => some (⟨#[82, 69, 65, 68]⟩ ++ ta)) else (if k = 5 then ((numT a).bind fun ta => (numT b).bind fun tb => some ((⟨#[76, 79, 83, 69]⟩ ++ ta) ++ tb)) else (if k = 6 then ((numT a).bind fun ta => (numT b).bind fun tb => (numT n).bind fun tn => (numT m).bind fun tm => some ((((⟨#[83, 80, 79, 73, 76]⟩ ++ ta) ++ tb) ++ tn) ++ tm)) else (if k = 7 then ((numT a).bind fun ta => (numT b).bind fun tb => some ((⟨#[66, 76, 79, 67, 75]⟩ ++ ta) ++ tb)) else (if k = 8 then ((numT a).bind fun ta => (numT b).bind fun tb => some ((⟨#[79, 80, 69, 78]⟩ ++ ta) ++ tb)) else (if k = 9 then ((numT a).bind fun ta => (numT x).bind fun tx => (numT y).bind fun ty => (numT n).bind fun tn => some ((((⟨#[83, 84, 65, 78, 68]⟩ ++ ta) ++ tx) ++ ty) ++ tn)) else (if k = 10 then ((numT a).bind fun ta => (numT x).bind fun tx => (numT y).bind fun ty => some (((⟨#[77, 79, 86, 69]⟩ ++ ta) ++ tx) ++ ty)) else (if k = 11 then ((numT a).bind fun ta => (numT x).bind fun tx => (numT y).bind fun ty => some (((⟨#[84, 85, 82, 78]⟩ ++ ta) ++ tx) ++ ty)) else (none)))))))))))
theorem squelchref30_Print.calls (k a b n m : Int) (s : ByteArray) (x y : Int) (d : ByteArray) (r : ByteArray) (w : World) (h : squelchref30_Print.f k a b n m s x y d = some r) :
    Calls Tryz.prog 22 #[.agg #[.int .i64 k, .int .i64 a, .int .i64 b, .int .i64 n, .int .i64 m, .string s, .int .i64 x, .int .i64 y, .string d]] w fun e w' => e = .returned (.string r) ∧ Below w.heap.size w w' := by
  unfold squelchref30_Print.f at h
  by_cases c4 : k = 4
  · rw [if_pos c4] at h
    split at h
    · rename_i hs
      obtain rfl := Option.some.inj h
      subst c4
      exact rprint4 a b n m s x y d w hs
    · cases h
  rw [if_neg c4] at h
  by_cases c1 : k = 1
  · rw [if_pos c1] at h
    subst c1
    obtain ⟨ta, ha, h⟩ := Option.bind_eq_some_iff.1 h
    obtain ⟨tt, ht, h⟩ := Option.bind_eq_some_iff.1 h
    obtain rfl := Option.some.inj h
    have hm := textT_some ht
    exact rprint1 a b n m s x y d 60 (s.size + 2) ta tt w (numT_some ha).1 (numT_some ha).2 hm.1 hm.2
  rw [if_neg c1] at h
  by_cases c2 : k = 2
  · rw [if_pos c2] at h
    subst c2
    obtain ⟨ta, ha, h⟩ := Option.bind_eq_some_iff.1 h
    obtain ⟨tt, ht, h⟩ := Option.bind_eq_some_iff.1 h
    obtain rfl := Option.some.inj h
    have hm := textT_some ht
    exact rprint2 a b n m s x y d 60 (s.size + 2) ta tt w (numT_some ha).1 (numT_some ha).2 hm.1 hm.2
  rw [if_neg c2] at h
  by_cases c3 : k = 3
  · rw [if_pos c3] at h
    subst c3
    obtain ⟨ta, ha, h⟩ := Option.bind_eq_some_iff.1 h
    obtain rfl := Option.some.inj h
    exact rprint3 a b n m s x y d 60 ta w (numT_some ha).1 (numT_some ha).2
  rw [if_neg c3] at h
  by_cases c5 : k = 5
  · rw [if_pos c5] at h
    subst c5
    obtain ⟨ta, ha, h⟩ := Option.bind_eq_some_iff.1 h
    obtain ⟨tb, hb, h⟩ := Option.bind_eq_some_iff.1 h
    obtain rfl := Option.some.inj h
    exact rprint5 a b n m s x y d 60 ta tb w (numT_some ha).1 (numT_some ha).2 (numT_some hb).1 (numT_some hb).2
  rw [if_neg c5] at h
  by_cases c6 : k = 6
  · rw [if_pos c6] at h
    subst c6
    obtain ⟨ta, ha, h⟩ := Option.bind_eq_some_iff.1 h
    obtain ⟨tb, hb, h⟩ := Option.bind_eq_some_iff.1 h
    obtain ⟨tn, hn, h⟩ := Option.bind_eq_some_iff.1 h
    obtain ⟨tm, hm, h⟩ := Option.bind_eq_some_iff.1 h
    obtain rfl := Option.some.inj h
    exact rprint6 a b n m s x y d 60 ta tb tn tm w (numT_some ha).1 (numT_some ha).2 (numT_some hb).1 (numT_some hb).2 (numT_some hn).1 (numT_some hn).2 (numT_some hm).1 (numT_some hm).2
  rw [if_neg c6] at h
  by_cases c7 : k = 7
  · rw [if_pos c7] at h
    subst c7
    obtain ⟨ta, ha, h⟩ := Option.bind_eq_some_iff.1 h
    obtain ⟨tb, hb, h⟩ := Option.bind_eq_some_iff.1 h
    obtain rfl := Option.some.inj h
    exact rprint7 a b n m s x y d 60 ta tb w (numT_some ha).1 (numT_some ha).2 (numT_some hb).1 (numT_some hb).2
  rw [if_neg c7] at h
  by_cases c8 : k = 8
  · rw [if_pos c8] at h
    subst c8
    obtain ⟨ta, ha, h⟩ := Option.bind_eq_some_iff.1 h
    obtain ⟨tb, hb, h⟩ := Option.bind_eq_some_iff.1 h
    obtain rfl := Option.some.inj h
    exact rprint8 a b n m s x y d 60 ta tb w (numT_some ha).1 (numT_some ha).2 (numT_some hb).1 (numT_some hb).2
  rw [if_neg c8] at h
  by_cases c9 : k = 9
  · rw [if_pos c9] at h
    subst c9
    obtain ⟨ta, ha, h⟩ := Option.bind_eq_some_iff.1 h
    obtain ⟨tx, hx, h⟩ := Option.bind_eq_some_iff.1 h
    obtain ⟨ty, hy, h⟩ := Option.bind_eq_some_iff.1 h
    obtain ⟨tn, hn, h⟩ := Option.bind_eq_some_iff.1 h
    obtain rfl := Option.some.inj h
    exact rprint9 a b n m s x y d 60 ta tx ty tn w (numT_some ha).1 (numT_some ha).2 (numT_some hx).1 (numT_some hx).2 (numT_some hy).1 (numT_some hy).2 (numT_some hn).1 (numT_some hn).2
  rw [if_neg c9] at h
  by_cases c10 : k = 10
  · rw [if_pos c10] at h
    subst c10
    obtain ⟨ta, ha, h⟩ := Option.bind_eq_some_iff.1 h
    obtain ⟨tx, hx, h⟩ := Option.bind_eq_some_iff.1 h
    obtain ⟨ty, hy, h⟩ := Option.bind_eq_some_iff.1 h
    obtain rfl := Option.some.inj h
    exact rprint10 a b n m s x y d 60 ta tx ty w (numT_some ha).1 (numT_some ha).2 (numT_some hx).1 (numT_some hx).2 (numT_some hy).1 (numT_some hy).2
  rw [if_neg c10] at h
  by_cases c11 : k = 11
  · rw [if_pos c11] at h
    subst c11
    obtain ⟨ta, ha, h⟩ := Option.bind_eq_some_iff.1 h
    obtain ⟨tx, hx, h⟩ := Option.bind_eq_some_iff.1 h
    obtain ⟨ty, hy, h⟩ := Option.bind_eq_some_iff.1 h
    obtain rfl := Option.some.inj h
    exact rprint11 a b n m s x y d 60 ta tx ty w (numT_some ha).1 (numT_some ha).2 (numT_some hx).1 (numT_some hx).2 (numT_some hy).1 (numT_some hy).2
  rw [if_neg c11] at h
  cases h
end Go.Proofs.YtndgaeldndgioaaGreatDoor.QAll
end

section
/- Walks, written by a program of this session (wip/pp): a Go function comes to what the Lean function beside it tells. -/
namespace Go.Proofs.YtndgaeldndgioaaGreatDoor.QAll
open Go.RowKit Go.Proofs.YtndgaeldndgioaaGreatDoorW.PrintWords Go.Proofs.YtndgaeldndgioaaGreatDoorW.PrintLast Go.Proofs.YtndgaeldndgioaaGreatDoorW.PrintMore
attribute [local go_sem] max2_int min2_int max_two min_two max_three min_three max_four min_four
set_option linter.unusedVariables false
set_option linter.unusedSimpArgs false

def squelchref30_fits.f (a0 : Int) : Option (Bool) := if a0 ≥ (-9999) then (some (decide (a0 ≤ 9999))) else (some false)
set_option maxHeartbeats 8000000 in
set_option maxRecDepth 100000 in
theorem squelchref30_fits.calls (a0 : Int) (r : Bool) (w : World) (h : squelchref30_fits.f a0 = some r) :
  Calls Tryz.prog 53 #[.int .i64 a0] w fun e w' => e = .returned (.bool r) ∧ Drawn0 w w' := by
 have H : (if a0 ≥ (-9999) then (some (decide (a0 ≤ 9999))) else (some false)) = some r := h
 clear h
 by_cases c2 : a0 ≥ (-9999)
 ·rw [if_pos c2] at H
  have c2b0 : decide ((-9999) ≤ a0) = true := decide_eq_true c2
  clear c2
  obtain rfl := Option.some.inj H
  go_enter Tryz.func53, Tryz.ntmps53
  go_wp2
  go_ret
  exact ⟨by first | rfl | (simp; done) | (simp [*]; done) | (simp; exact (fun l : List UInt8 => (by cases l <;> rfl : l.isEmpty = !(l != []))) _), by repeat (first | exact Drawn0.refl _ | apply Drawn0.step)⟩
 ·rw [if_neg c2] at H
  have c2b0 : decide ((-9999) ≤ a0) = false := decide_eq_false c2
  clear c2
  obtain rfl := Option.some.inj H
  go_enter Tryz.func53, Tryz.ntmps53
  go_wp2
  go_ret
  exact ⟨by first | rfl | (simp; done) | (simp [*]; done) | (simp; exact (fun l : List UInt8 => (by cases l <;> rfl : l.isEmpty = !(l != []))) _), by repeat (first | exact Drawn0.refl _ | apply Drawn0.step)⟩

end Go.Proofs.YtndgaeldndgioaaGreatDoor.QAll
end
