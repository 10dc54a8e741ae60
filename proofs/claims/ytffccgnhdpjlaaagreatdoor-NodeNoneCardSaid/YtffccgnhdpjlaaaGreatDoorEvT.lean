/- What an operation comes to hangs on its operands alone; of one that reads nothing, not on memory. -/
import Derived.Test.YtffccgnhdpjlaaaGreatDoorEvR
set_option linter.unusedVariables false
set_option linter.unusedSimpArgs false
namespace Go.Proofs.YtffccgnhdpjlaaaGreatDoor.Ev
open Go Go.RowKit
section
variable {P : Program} {K : Kt} {H : Tr AO} {ρ ρ' : Operand → Option AV}
theorem fallOp_congr {o : Oper} (hs : ∀ cs b, o.op ≠ .select cs b) (h : ∀ x ∈ o.op.operands, ρ x = ρ' x) : fallOp P ρ o = fallOp P ρ' o := by
  unfold fallOp
  have h1 : o.op.operands.toList.all (fun x => ((ρ x).bind concV).isSome) = o.op.operands.toList.all (fun x => ((ρ' x).bind concV).isSome) := by
    rw [Bool.eq_iff_iff, List.all_eq_true, List.all_eq_true]
    exact ⟨fun k x hx => by rw [← h x (by simpa using hx)]; exact k x hx, fun k x hx => by rw [h x (by simpa using hx)]; exact k x hx⟩
  rw [h1, execOp_congr (ρ := fun x => ((ρ x).bind concV).getD undef) (ρ' := fun x => ((ρ' x).bind concV).getD undef) o hs fun x hx => by simp only [h x hx]]
theorem fall_congr {o : Oper} (hs : ∀ cs b, o.op ≠ .select cs b) (h : ∀ x ∈ o.op.operands, ρ x = ρ' x) : fall P ρ o = fall P ρ' o := by
  unfold fall
  rw [fallOp_congr hs h]
theorem aparts_congr : ∀ {l : List (Nat × Operand)}, (∀ p ∈ l, ρ p.2 = ρ' p.2) → aparts ρ l = aparts ρ' l
  | [], _ => rfl
  | (i, x) :: l, h => by
    unfold aparts
    rw [h (i, x) (List.mem_cons_self ..), aparts_congr fun p hp => h p (List.mem_cons_of_mem _ hp)]
theorem acaps_congr : ∀ {l : List Operand}, (∀ x ∈ l, ρ x = ρ' x) → acaps ρ l = acaps ρ' l
  | [], _ => rfl
  | x :: l, h => by
    unfold acaps
    rw [h x (List.mem_cons_self ..), acaps_congr fun p hp => h p (List.mem_cons_of_mem _ hp)]
theorem avs_congr : ∀ {l : List Operand}, (∀ x ∈ l, ρ x = ρ' x) → avs ρ l = avs ρ' l
  | [], _ => rfl
  | x :: l, h => by
    unfold avs
    rw [h x (List.mem_cons_self ..), avs_congr fun p hp => h p (List.mem_cons_of_mem _ hp)]
theorem evSoft_congr {o : Oper} (h : ∀ x ∈ o.op.operands, ρ x = ρ' x) : evSoft P H ρ o = evSoft P H ρ' o := by
  have hf : (∀ cs b, o.op ≠ .select cs b) → fall P ρ o = fall P ρ' o := fun hs => fall_congr hs h
  obtain ⟨dst, op, ty, pos, after, guard⟩ := o
  unfold evSoft
  cases op <;> dsimp only at h hf ⊢ <;> simp only [Op.operands] at h <;> first | rfl | skip
  case move x => rw [h x (by simp)]
  case assign x => rw [h x (by simp)]
  case pick c a b => rw [h c (by simp), h a (by simp), h b (by simp)]
  case box t x => rw [h x (by simp)]
  case build t ps => rw [aparts_congr fun p hp => h p.2 (by simpa using ⟨p.1, by simpa using hp⟩)]
  case buildSlice t n ps => rw [aparts_congr fun p hp => h p.2 (by simpa using ⟨p.1, by simpa using hp⟩)]
  case load t a => rw [h a (by simp)]
  case nilCheck x => rw [h x (by simp)]
  case binOp op t x y yt => rw [h x (by simp), h y (by simp), hf (by simp)]
  case unOp => exact hf (by simp)
  case convert s d x => rw [h x (by simp), hf (by simp)]
  case makeInterface => exact hf (by simp)
  case typeAssert => exact hf (by simp)
  case makeFunc fn a c => rw [acaps_congr fun x hx => h x (by simp; exact Or.inr (by simpa using hx))]
  case makeSlice t l c => rw [h l (by simp), h c (by simp)]
  case slice t x lo hi mx =>
    cases mx with
    | none =>
      dsimp only
      rw [h x (by simp)]
      have e1 : lo.map ρ = lo.map ρ' := by
        cases lo with
        | none => rfl
        | some y => rw [Option.map_some, Option.map_some, h y (by simp)]
      have e2 : hi.map ρ = hi.map ρ' := by
        cases hi with
        | none => rfl
        | some y => rw [Option.map_some, Option.map_some, h y (by simp)]
      rw [e1, e2]
    | some _ => rfl
  case fieldAddr t x f => rw [h x (by simp)]
  case field t x f => rw [h x (by simp)]
  case indexAddr t x i => rw [h x (by simp), h i (by simp)]
  case index t x i => rw [h x (by simp), h i (by simp)]
  case extract x i => rw [h x (by simp)]
  case call c =>
    obtain ⟨callee, args, ats⟩ := c
    have hc := hf (by simp)
    have ha : ∀ x ∈ args.toList, ρ x = ρ' x := fun x hx => h x (by
      simp only [Call.operands, Array.mem_append]
      exact Or.inr (by simpa using hx))
    dsimp only
    split
    · rename_i x t hx ht
      rw [ha x (by rw [hx]; simp)]
    · exact hc
    · exact hc
    · rfl
theorem evMore_congr {o : Oper} (h : ∀ x ∈ o.op.operands, ρ x = ρ' x) : evMore P K H ρ o = evMore P K H ρ' o := by
  have hf : (∀ cs b, o.op ≠ .select cs b) → fall P ρ o = fall P ρ' o := fun hs => fall_congr hs h
  obtain ⟨dst, op, ty, pos, after, guard⟩ := o
  unfold evMore
  cases op <;> dsimp only at h hf ⊢ <;> simp only [Op.operands] at h <;> first | rfl | skip
  case load t a => rw [h a (by simp)]
  case fieldAddr => exact hf (by simp)
  case indexAddr => exact hf (by simp)
  case nilCheck => exact hf (by simp)
  case lookup t m k ok => rw [h m (by simp), h k (by simp)]
  case range t x => rw [h x (by simp)]
  case slice t x lo hi mx =>
    cases mx with
    | none =>
      dsimp only
      rw [h x (by simp)]
      have e1 : lo.map ρ = lo.map ρ' := by
        cases lo with
        | none => rfl
        | some y => rw [Option.map_some, Option.map_some, h y (by simp)]
      have e2 : hi.map ρ = hi.map ρ' := by
        cases hi with
        | none => rfl
        | some y => rw [Option.map_some, Option.map_some, h y (by simp)]
      rw [e1, e2]
    | some _ => rfl
  case convert s d x => rw [h x (by simp)]
  case binOp op t x y yt => rw [h x (by simp), h y (by simp)]
  case call c =>
    obtain ⟨callee, args, ats⟩ := c
    dsimp only
    split
    · rename_i x ha
      rw [h x (by simp only [Call.operands, Array.mem_append]; exact Or.inr (by rw [← Array.mem_toList_iff, ha]; simp))]
    · rename_i x ha
      rw [h x (by simp only [Call.operands, Array.mem_append]; exact Or.inr (by rw [← Array.mem_toList_iff, ha]; simp))]
    · rename_i x ha
      rw [h x (by simp only [Call.operands, Array.mem_append]; exact Or.inr (by rw [← Array.mem_toList_iff, ha]; simp))]
    · exact hf (by simp)
    · exact hf (by simp)
    · exact hf (by simp)
    · rfl
theorem evQuick_congr {o : Oper} (h : ∀ x ∈ o.op.operands, ρ x = ρ' x) : evQuick P H ρ o = evQuick P H ρ' o := by
  obtain ⟨dst, op, ty, pos, after, guard⟩ := o
  unfold evQuick
  cases op <;> dsimp only at h ⊢ <;> simp only [Op.operands] at h <;> first | rfl | skip
  case move x => rw [h x (by simp)]
  case assign x => rw [h x (by simp)]
  case binOp op t x y yt => rw [h x (by simp), h y (by simp)]
  case load t a => rw [h a (by simp)]
  case fieldAddr t x f => rw [h x (by simp)]
  case indexAddr t x i => rw [h x (by simp), h i (by simp)]
theorem evRead_congr {o : Oper} (h : ∀ x ∈ o.op.operands, ρ x = ρ' x) : evRead P K H ρ o = evRead P K H ρ' o := by
  unfold evRead
  rw [evQuick_congr h, evSoft_congr h, evMore_congr h]
theorem evHard_congr {F : Doer} {S : St} {o : Oper} (h : ∀ x ∈ o.op.operands, ρ x = ρ' x) : evHard P F ρ S o = evHard P F ρ' S o := by
  obtain ⟨dst, op, ty, pos, after, guard⟩ := o
  unfold evHard
  cases op <;> dsimp only at h ⊢ <;> simp only [Op.operands] at h <;> first | rfl | skip
  case store t a x => rw [h a (by simp), h x (by simp)]
  case insert t m k x => rw [h m (by simp), h k (by simp), h x (by simp)]
  case mapUpdate t m k x => rw [h m (by simp), h k (by simp), h x (by simp)]
  case next it isS =>
    cases isS with
    | true => dsimp only; rw [h it (by simp)]
    | false => rfl
  case call c =>
    obtain ⟨callee, args, ats⟩ := c
    have ha : ∀ x ∈ args.toList, ρ x = ρ' x := fun x hx => h x (by
      simp only [Call.operands, Array.mem_append]
      exact Or.inr (by simpa using hx))
    dsimp only
    cases callee with
    | value f =>
      dsimp only
      rw [h f (by simp [Call.operands]), avs_congr ha]
    | invoke _ _ => rfl
    | builtin b =>
      cases b <;> first | rfl | skip
      all_goals
        dsimp only
        split
        · rename_i p q t t' hx ht
          rw [ha p (by rw [hx]; simp), ha q (by rw [hx]; simp)]
        · rfl
theorem evRead_still {o : Oper} (h : reads o = false) (H' : Tr AO) : evRead P K H ρ o = evRead P K H' ρ o := by
  obtain ⟨dst, op, ty, pos, after, guard⟩ := o
  unfold reads at h
  unfold evRead evQuick evSoft evMore
  cases op <;> first | rfl | (cases h; done)
end
end Go.Proofs.YtffccgnhdpjlaaaGreatDoor.Ev
