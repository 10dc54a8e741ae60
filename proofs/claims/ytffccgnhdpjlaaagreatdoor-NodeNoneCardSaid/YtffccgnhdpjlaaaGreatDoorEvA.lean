/- A runner of closed code, told by names of blocks: its tries, its values, its heap. What it comes to holds of the machine at whatever blocks: EvB and on. -/
import Derived.Calls
import Derived.Orders
import Derived.KernelRfl
set_option linter.unusedVariables false
set_option linter.unusedSimpArgs false
namespace Go.Proofs.YtffccgnhdpjlaaaGreatDoor.Ev
open Go
/-! ### tries -/
inductive Tr (α : Type) where
  | nil
  | node (l : Tr α) (v : Option α) (r : Tr α)
noncomputable def Tr.get {α : Type} (t : Tr α) : Nat → Option α :=
  Tr.rec (motive := fun _ => Nat → Option α) (fun _ => none) (fun l v r gl gr n => Nat.casesOn (motive := fun _ => Option α) n v (fun m => Bool.casesOn (motive := fun _ => Option α) (Nat.beq (m % 2) 0) (gr (m / 2)) (gl (m / 2)))) t
/-- The entry n turned to o; none: the number is too great for the purse. -/
noncomputable def Tr.updf {α : Type} (o : Option α) (fuel : Nat) : Tr α → Nat → Option (Tr α) :=
  Nat.rec (motive := fun _ => Tr α → Nat → Option (Tr α)) (fun _ _ => none)
    (fun _ self t n => Tr.casesOn (motive := fun _ => Option (Tr α)) t
      (Nat.casesOn (motive := fun _ => Option (Tr α)) n (some (.node .nil o .nil)) (fun m => Bool.casesOn (motive := fun _ => Option (Tr α)) (Nat.beq (m % 2) 0)
        (Option.casesOn (motive := fun _ => Option (Tr α)) (self .nil (m / 2)) none (fun r' => some (.node .nil none r')))
        (Option.casesOn (motive := fun _ => Option (Tr α)) (self .nil (m / 2)) none (fun l' => some (.node l' none .nil)))))
      (fun l v r => Nat.casesOn (motive := fun _ => Option (Tr α)) n (some (.node l o r)) (fun m => Bool.casesOn (motive := fun _ => Option (Tr α)) (Nat.beq (m % 2) 0)
        (Option.casesOn (motive := fun _ => Option (Tr α)) (self r (m / 2)) none (fun r' => some (.node l v r')))
        (Option.casesOn (motive := fun _ => Option (Tr α)) (self l (m / 2)) none (fun l' => some (.node l' v r)))))) fuel
noncomputable def Tr.upd {α : Type} (o : Option α) (fuel : Nat) (t : Tr α) (n : Nat) : Option (Tr α) := Tr.updf o fuel t n
section
variable {α : Type} {o : Option α}
theorem Tr.get_n (n : Nat) : (Tr.nil : Tr α).get n = none := rfl
theorem Tr.get_z (l r : Tr α) (v : Option α) : (Tr.node l v r).get 0 = v := rfl
theorem Tr.get_s (l r : Tr α) (v : Option α) (m : Nat) : (Tr.node l v r).get (m + 1) = bif Nat.beq (m % 2) 0 then l.get (m / 2) else r.get (m / 2) := by
  show Bool.casesOn (motive := fun _ => Option α) (Nat.beq (m % 2) 0) (r.get (m / 2)) (l.get (m / 2)) = _
  cases Nat.beq (m % 2) 0 <;> rfl
theorem Tr.upd_0 (t : Tr α) (n : Nat) : Tr.upd o 0 t n = none := rfl
theorem Tr.upd_nz (f : Nat) : Tr.upd o (f + 1) .nil 0 = some (.node .nil o .nil) := rfl
theorem Tr.upd_ns (f m : Nat) : Tr.upd o (f + 1) .nil (m + 1) = bif Nat.beq (m % 2) 0 then
        (match Tr.upd o f .nil (m / 2) with | some l' => some (.node l' none .nil) | none => none)
      else (match Tr.upd o f .nil (m / 2) with | some r' => some (.node .nil none r') | none => none) := by
  show Bool.casesOn (motive := fun _ => Option (Tr α)) (Nat.beq (m % 2) 0) (Option.casesOn (motive := fun _ => Option (Tr α)) (Tr.upd o f .nil (m / 2)) none (fun r' => some (.node .nil none r'))) (Option.casesOn (motive := fun _ => Option (Tr α)) (Tr.upd o f .nil (m / 2)) none (fun l' => some (.node l' none .nil))) = _
  cases Nat.beq (m % 2) 0 <;> cases Tr.upd o f .nil (m / 2) <;> rfl
theorem Tr.upd_oz (f : Nat) (l r : Tr α) (v : Option α) : Tr.upd o (f + 1) (.node l v r) 0 = some (.node l o r) := rfl
theorem Tr.upd_os (f m : Nat) (l r : Tr α) (v : Option α) : Tr.upd o (f + 1) (.node l v r) (m + 1) = bif Nat.beq (m % 2) 0 then
        (match Tr.upd o f l (m / 2) with | some l' => some (.node l' v r) | none => none)
      else (match Tr.upd o f r (m / 2) with | some r' => some (.node l v r') | none => none) := by
  show Bool.casesOn (motive := fun _ => Option (Tr α)) (Nat.beq (m % 2) 0) (Option.casesOn (motive := fun _ => Option (Tr α)) (Tr.upd o f r (m / 2)) none (fun r' => some (.node l v r'))) (Option.casesOn (motive := fun _ => Option (Tr α)) (Tr.upd o f l (m / 2)) none (fun l' => some (.node l' v r))) = _
  cases Nat.beq (m % 2) 0
  · cases Tr.upd o f r (m / 2) <;> rfl
  · cases Tr.upd o f l (m / 2) <;> rfl
end
theorem Tr.get_upd {α : Type} (o : Option α) : ∀ (f : Nat) (t t' : Tr α) (n : Nat), Tr.upd o f t n = some t' → ∀ m, t'.get m = if m = n then o else t.get m
  | 0, t, t', n, h, m => by rw [Tr.upd_0] at h; cases h
  | f + 1, t, t', n, h, m => by
    have key : ∀ (x : Tr α) (k j : Nat), Tr.upd o f x k = some t' → True := fun _ _ _ _ => trivial
    cases t with
    | nil =>
      cases n with
      | zero =>
        simp only [Tr.upd_nz, Option.some.injEq] at h
        subst h
        cases m with
        | zero => simp [Tr.get_z]
        | succ m => simp [Tr.get_s, Tr.get_n]
      | succ n =>
        rw [Tr.upd_ns] at h
        cases hp : Nat.beq (n % 2) 0 with
        | true =>
          rw [hp] at h
          simp only [cond_true] at h
          cases hu : Tr.upd o f .nil (n / 2) with
          | none => rw [hu] at h; cases h
          | some l' =>
            rw [hu] at h
            simp only [Option.some.injEq] at h
            subst h
            have hp2 : n % 2 = 0 := Nat.eq_of_beq_eq_true hp
            cases m with
            | zero => simp [Tr.get_z, Tr.get_s, Tr.get_n]
            | succ m =>
              have ih := Tr.get_upd o f _ _ _ hu (m / 2)
              simp only [Tr.get_s, Tr.get_n]
              cases hm : Nat.beq (m % 2) 0 with
              | true =>
                have hm2 : m % 2 = 0 := Nat.eq_of_beq_eq_true hm
                simp only [cond_true]
                rw [ih]
                by_cases e : m = n
                · subst e; simp
                · rw [if_neg (by omega), if_neg (by omega)]; simp [Tr.get_z, Tr.get_s, Tr.get_n]
              | false =>
                have hm2 : ¬ m % 2 = 0 := Nat.ne_of_beq_eq_false hm
                simp only [cond_false]
                rw [if_neg (by omega)]
        | false =>
          rw [hp] at h
          simp only [cond_false] at h
          cases hu : Tr.upd o f .nil (n / 2) with
          | none => rw [hu] at h; cases h
          | some l' =>
            rw [hu] at h
            simp only [Option.some.injEq] at h
            subst h
            have hp2 : ¬ n % 2 = 0 := Nat.ne_of_beq_eq_false hp
            cases m with
            | zero => simp [Tr.get_z, Tr.get_s, Tr.get_n]
            | succ m =>
              have ih := Tr.get_upd o f _ _ _ hu (m / 2)
              simp only [Tr.get_s, Tr.get_n]
              cases hm : Nat.beq (m % 2) 0 with
              | true =>
                have hm2 : m % 2 = 0 := Nat.eq_of_beq_eq_true hm
                simp only [cond_true]
                rw [if_neg (by omega)]
              | false =>
                have hm2 : ¬ m % 2 = 0 := Nat.ne_of_beq_eq_false hm
                simp only [cond_false]
                rw [ih]
                by_cases e : m = n
                · subst e; simp
                · rw [if_neg (by omega), if_neg (by omega)]; simp [Tr.get_z, Tr.get_s, Tr.get_n]
    | node l v r =>
      cases n with
      | zero =>
        simp only [Tr.upd_oz, Option.some.injEq] at h
        subst h
        cases m with
        | zero => simp [Tr.get_z]
        | succ m => simp [Tr.get_s, Tr.get_n]
      | succ n =>
        rw [Tr.upd_os] at h
        cases hp : Nat.beq (n % 2) 0 with
        | true =>
          rw [hp] at h
          simp only [cond_true] at h
          cases hu : Tr.upd o f l (n / 2) with
          | none => rw [hu] at h; cases h
          | some l' =>
            rw [hu] at h
            simp only [Option.some.injEq] at h
            subst h
            have hp2 : n % 2 = 0 := Nat.eq_of_beq_eq_true hp
            cases m with
            | zero => simp [Tr.get_z, Tr.get_s, Tr.get_n]
            | succ m =>
              have ih := Tr.get_upd o f _ _ _ hu (m / 2)
              simp only [Tr.get_s, Tr.get_n]
              cases hm : Nat.beq (m % 2) 0 with
              | true =>
                have hm2 : m % 2 = 0 := Nat.eq_of_beq_eq_true hm
                simp only [cond_true]
                rw [ih]
                by_cases e : m = n
                · subst e; simp
                · rw [if_neg (by omega), if_neg (by omega)]
              | false =>
                have hm2 : ¬ m % 2 = 0 := Nat.ne_of_beq_eq_false hm
                simp only [cond_false]
                rw [if_neg (by omega)]
        | false =>
          rw [hp] at h
          simp only [cond_false] at h
          cases hu : Tr.upd o f r (n / 2) with
          | none => rw [hu] at h; cases h
          | some l' =>
            rw [hu] at h
            simp only [Option.some.injEq] at h
            subst h
            have hp2 : ¬ n % 2 = 0 := Nat.ne_of_beq_eq_false hp
            cases m with
            | zero => simp [Tr.get_z, Tr.get_s, Tr.get_n]
            | succ m =>
              have ih := Tr.get_upd o f _ _ _ hu (m / 2)
              simp only [Tr.get_s, Tr.get_n]
              cases hm : Nat.beq (m % 2) 0 with
              | true =>
                have hm2 : m % 2 = 0 := Nat.eq_of_beq_eq_true hm
                simp only [cond_true]
                rw [if_neg (by omega)]
              | false =>
                have hm2 : ¬ m % 2 = 0 := Nat.ne_of_beq_eq_false hm
                simp only [cond_false]
                rw [ih]
                by_cases e : m = n
                · subst e; simp
                · rw [if_neg (by omega), if_neg (by omega)]
end Go.Proofs.YtffccgnhdpjlaaaGreatDoor.Ev
