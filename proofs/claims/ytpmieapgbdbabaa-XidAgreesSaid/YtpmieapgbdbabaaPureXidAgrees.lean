/- The plain law of XidAgrees: what two agree on is what the reference says, is right, is the same the other way round, and no more than either can; over plain numbers, for every pair of parameters. -/
import Derived.Test.YtpmieapgbdbabaaQXidAgreesx10
import Derived.KernelRfl
namespace Go.Proofs.Ytpmieapgbdbabaa.Pure
open Go.RowKit Go.Proofs.Ytpmieapgbdbabaa.QXidAgrees Go.Proofs.YtpmieapgbdbabaaW.PrintWords Go.Proofs.YtpmieapgbdbabaaW.PrintLast

def mostN (a b : Bool) : Int := if a = true then (if b = true then 32 else 63) else (if b = true then 4 else 7)
theorem xmost (a b : Bool) : xid_Most.f a b = some (mostN a b) := by cases a <;> cases b <;> rfl
theorem rmost (k : Nat) (a b : Bool) : squelchref08_Most.f (k + 1) a b = some (mostN a b) := by cases a <;> cases b <;> rfl
def RightP (a0 a1 : Bool) (a2 a3 a4 a5 : Int) : Prop := 16 ≤ a2 ∧ a2 ≤ 256 ∧ 1 ≤ a3 ∧ a3 ≤ mostN a0 a1 ∧ 4 ≤ a4 ∧ a4 ≤ 255 ∧ 1 ≤ a5 ∧ a5 ≤ 15
instance (a0 a1 : Bool) (a2 a3 a4 a5 : Int) : Decidable (RightP a0 a1 a2 a3 a4 a5) := by unfold RightP; infer_instance
theorem xin (a b c : Int) : xid_in.f a b c = some (decide (b ≤ a ∧ a ≤ c)) := by
  unfold xid_in.f
  by_cases h : a ≥ b
  · rw [if_pos h]; congr 1; rw [decide_eq_decide]; omega
  · rw [if_neg h]; congr 1; symm; rw [decide_eq_false_iff_not]; omega
theorem xright (a0 a1 : Bool) (a2 a3 a4 a5 : Int) : xid_Right.f a0 a1 a2 a3 a4 a5 = some (decide (RightP a0 a1 a2 a3 a4 a5)) := by
  unfold xid_Right.f
  simp only [xin, xmost, Option.bind_some]
  by_cases h1 : 16 ≤ a2 ∧ a2 ≤ 256
  · rw [if_pos (decide_eq_true h1)]
    by_cases h2 : 1 ≤ a3 ∧ a3 ≤ mostN a0 a1
    · rw [if_pos (decide_eq_true h2)]
      by_cases h3 : 4 ≤ a4 ∧ a4 ≤ 255
      · rw [if_pos (decide_eq_true h3)]; congr 1; exact decide_eq_decide.2 (by unfold RightP; omega)
      · rw [if_neg (by simp only [decide_eq_true_eq]; exact h3)]; congr 1; symm; exact decide_eq_false (by unfold RightP; omega)
    · rw [if_neg (by simp only [decide_eq_true_eq]; exact h2)]; congr 1; symm; exact decide_eq_false (by unfold RightP; omega)
  · rw [if_neg (by simp only [decide_eq_true_eq]; exact h1)]; congr 1; symm; exact decide_eq_false (by unfold RightP; omega)
theorem rright (k : Nat) (a0 a1 : Bool) (a2 a3 a4 a5 : Int) : squelchref08_Right.f (k + 1) a0 a1 a2 a3 a4 a5 = some (decide (RightP a0 a1 a2 a3 a4 a5)) := by
  unfold squelchref08_Right.f
  simp only [rmost, Option.bind_some]
  repeat' split
  all_goals (congr 1; first | exact decide_eq_decide.2 (by unfold RightP; omega) | (symm; exact decide_eq_false (by unfold RightP; omega)))

theorem and_ite (a b : Bool) : (if a = true then b else false) = (a && b) := by cases a <;> rfl
/-- What is agreed on. -/
def kay (a0 a1 : Bool) (a3 : Int) (b0 b1 : Bool) (b3 : Int) : Int := if (if b3 < a3 then b3 else a3) > mostN (a0 && b0) (a1 && b1) then mostN (a0 && b0) (a1 && b1) else (if b3 < a3 then b3 else a3)
theorem xagree (a0 a1 : Bool) (a2 a3 a4 a5 : Int) (b0 b1 : Bool) (b2 b3 b4 b5 : Int) : xid_Agree.f a0 a1 a2 a3 a4 a5 b0 b1 b2 b3 b4 b5 =
    if RightP a0 a1 a2 a3 a4 a5 ∧ RightP b0 b1 b2 b3 b4 b5 then some (a0 && b0, a1 && b1, (if b2 < a2 then b2 else a2), kay a0 a1 a3 b0 b1 b3, (if b4 > a4 then b4 else a4), (if b5 < a5 then b5 else a5), 0)
    else some (false, false, 0, 0, 0, 0, 1) := by
  unfold xid_Agree.f
  simp only [xright, xmost, Option.bind_some, decide_eq_true_eq]
  by_cases ha : RightP a0 a1 a2 a3 a4 a5
  · rw [if_pos ha]
    by_cases hb : RightP b0 b1 b2 b3 b4 b5
    · rw [if_pos hb, if_pos (And.intro ha hb)]
      show (if a0 = true then _ else _) = some (a0 && b0, a1 && b1, mn a2 b2, mn (mn a3 b3) (mostN (a0 && b0) (a1 && b1)), mx a4 b4, mn a5 b5, 0)
      cases a0 <;> cases a1 <;> simp
    · rw [if_neg hb, if_neg (fun h => hb h.2)]
  · rw [if_neg ha, if_neg (fun h => ha h.1)]
theorem ragree (k : Nat) (a0 a1 : Bool) (a2 a3 a4 a5 : Int) (b0 b1 : Bool) (b2 b3 b4 b5 : Int) : squelchref08_Agree.f (k + 7) a0 a1 a2 a3 a4 a5 b0 b1 b2 b3 b4 b5 =
    some (a0 && b0, a1 && b1, (if b2 < a2 then b2 else a2), kay a0 a1 a3 b0 b1 b3, (if b4 > a4 then b4 else a4), (if b5 < a5 then b5 else a5)) := by
  unfold squelchref08_Agree.f
  have e0 : ∀ x0 x1 x2 x3 x4 x5 : _, squelchref08_Agree.j0 (k + 7) a0 a1 a2 a3 a4 a5 b0 b1 b2 b3 b4 b5 x0 x1 x2 x3 x4 x5 = squelchref08_Agree.j1 (k + 6) b0 b1 b2 b3 b4 b5 x0 (a1 && b1) x2 x3 x4 x5 := by
    intro x0 x1 x2 x3 x4 x5; simp only [squelchref08_Agree.j0]; cases a1 <;> simp
  have e1 : ∀ x0 x1 x2 x3 x4 x5 : _, squelchref08_Agree.j1 (k + 6) b0 b1 b2 b3 b4 b5 x0 x1 x2 x3 x4 x5 = squelchref08_Agree.j2 (k + 5) b0 b1 b2 b3 b4 b5 x0 x1 (if b2 < x2 then b2 else x2) x3 x4 x5 := by
    intro x0 x1 x2 x3 x4 x5; simp only [squelchref08_Agree.j1]; split <;> rfl
  have e2 : ∀ x0 x1 x2 x3 x4 x5 : _, squelchref08_Agree.j2 (k + 5) b0 b1 b2 b3 b4 b5 x0 x1 x2 x3 x4 x5 = squelchref08_Agree.j3 (k + 4) b0 b1 b2 b3 b4 b5 x0 x1 x2 (if b3 < x3 then b3 else x3) x4 x5 := by
    intro x0 x1 x2 x3 x4 x5; simp only [squelchref08_Agree.j2]; split <;> rfl
  have e3 : ∀ x0 x1 x2 x3 x4 x5 : _, squelchref08_Agree.j3 (k + 4) b0 b1 b2 b3 b4 b5 x0 x1 x2 x3 x4 x5 = squelchref08_Agree.j4 (k + 3) b0 b1 b2 b3 b4 b5 x0 x1 x2 x3 x4 (if b5 < x5 then b5 else x5) := by
    intro x0 x1 x2 x3 x4 x5; simp only [squelchref08_Agree.j3]; split <;> rfl
  have e4 : ∀ x0 x1 x2 x3 x4 x5 : _, squelchref08_Agree.j4 (k + 3) b0 b1 b2 b3 b4 b5 x0 x1 x2 x3 x4 x5 = some (x0, x1, x2, (if x3 > mostN x0 x1 then mostN x0 x1 else x3), (if b4 > x4 then b4 else x4), x5) := by
    intro x0 x1 x2 x3 x4 x5; simp only [squelchref08_Agree.j4, rmost, Option.bind_some]; split <;> split <;> rfl
  simp only [e0, e1, e2, e3, e4]
  unfold kay
  cases a0 <;> simp

theorem awake : ∃ k, squelchlaw08_awake.f k = some true := ⟨8, by kernel_rfl⟩
theorem XidAgrees : ∀ (a0_0 a0_1 : Bool) (a0_2 a0_3 a0_4 a0_5 : Int) (a1_0 a1_1 : Bool) (a1_2 a1_3 a1_4 a1_5 : Int),
    (Lit.int .i64 a0_2).wf = true → (Lit.int .i64 a0_3).wf = true → (Lit.int .i64 a0_4).wf = true → (Lit.int .i64 a0_5).wf = true →
    (Lit.int .i64 a1_2).wf = true → (Lit.int .i64 a1_3).wf = true → (Lit.int .i64 a1_4).wf = true → (Lit.int .i64 a1_5).wf = true →
    ∃ k, squelchlaw08_XidAgrees.f k a0_0 a0_1 a0_2 a0_3 a0_4 a0_5 a1_0 a1_1 a1_2 a1_3 a1_4 a1_5 = some true := by
  intro a0 a1 a2 a3 a4 a5 b0 b1 b2 b3 b4 b5 _ _ _ _ _ _ _ _
  refine ⟨9 + 1, ?_⟩
  unfold squelchlaw08_XidAgrees.f
  have haw : squelchlaw08_awake.f (9 + 1) = some true := by kernel_rfl
  rw [haw]
  simp only [Option.bind_some, if_true, rright, xagree, decide_eq_true_eq, squelchlaw08_XidAgrees.j0]
  by_cases ha : RightP a0 a1 a2 a3 a4 a5
  · by_cases hb : RightP b0 b1 b2 b3 b4 b5
    · have h2 : (if a2 < b2 then a2 else b2) = (if b2 < a2 then b2 else a2) := by split <;> split <;> omega
      have h4 : (if a4 > b4 then a4 else b4) = (if b4 > a4 then b4 else a4) := by split <;> split <;> omega
      have h5 : (if a5 < b5 then a5 else b5) = (if b5 < a5 then b5 else a5) := by split <;> split <;> omega
      have h3 : kay b0 b1 b3 a0 a1 a3 = kay a0 a1 a3 b0 b1 b3 := by
        unfold kay
        rw [Bool.and_comm b0 a0, Bool.and_comm b1 a1]
        generalize mostN (a0 && b0) (a1 && b1) = m
        repeat' split
        all_goals omega
      have hm : 1 ≤ mostN (a0 && b0) (a1 && b1) := by unfold mostN; repeat' split
                                                      all_goals omega
      have hself : kay a0 a1 a3 a0 a1 a3 = a3 := by
        unfold kay
        rw [Bool.and_self, Bool.and_self]
        have := ha.2.2.2.1
        repeat' split
        all_goals omega
      have hk1 : 1 ≤ kay a0 a1 a3 b0 b1 b3 ∧ kay a0 a1 a3 b0 b1 b3 ≤ mostN (a0 && b0) (a1 && b1) ∧ kay a0 a1 a3 b0 b1 b3 ≤ b3 := by
        unfold kay
        have := ha.2.2.1
        have := hb.2.2.1
        generalize mostN (a0 && b0) (a1 && b1) = m at hm ⊢
        repeat' split
        all_goals omega
      have hr : RightP (a0 && b0) (a1 && b1) (if b2 < a2 then b2 else a2) (kay a0 a1 a3 b0 b1 b3) (if b4 > a4 then b4 else a4) (if b5 < a5 then b5 else a5) := by
        obtain ⟨x1, x2, x3, x4, x5, x6, x7, x8⟩ := ha
        obtain ⟨z1, z2, z3, z4, z5, z6, z7, z8⟩ := hb
        obtain ⟨y1, y2, _⟩ := hk1
        refine ⟨?_, ?_, y1, y2, ?_, ?_, ?_, ?_⟩ <;> split <;> omega
      have hle : (if b2 < a2 then b2 else a2) ≤ a2 := by split <;> omega
      rw [if_pos (And.intro ha hb), if_pos (And.intro hb ha), if_pos (And.intro ha ha)]
      simp only [Option.bind_some, ragree 2, if_pos ha, decide_eq_true hb, Bool.not_true, Bool.false_eq_true, if_false, xright, decide_eq_true hr, h2, h3, h4, h5, hself, Bool.and_comm b0 a0, Bool.and_comm b1 a1, Bool.and_self, BEq.rfl, if_true, gt_iff_lt, Int.lt_irrefl, if_pos hle, if_pos hk1.2.2]
      cases a0 <;> cases b0 <;> rfl
    · rw [if_neg (fun h => hb h.2)]
      simp only [Option.bind_some, if_pos ha, decide_eq_false hb]
      rfl
  · rw [if_neg (fun h => ha h.1)]
    simp only [Option.bind_some, if_neg ha]
    rfl
end Go.Proofs.Ytpmieapgbdbabaa.Pure
