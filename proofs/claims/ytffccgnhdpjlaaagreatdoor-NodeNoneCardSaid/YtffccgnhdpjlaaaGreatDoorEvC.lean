/- The runner's values out of the machine's, and back; what asks nothing of memory is reckoned by the machine's own rules. -/
import Derived.Test.YtffccgnhdpjlaaaGreatDoorEvB
set_option linter.unusedVariables false
set_option linter.unusedSimpArgs false
namespace Go.Proofs.YtffccgnhdpjlaaaGreatDoor.Ev
open Go Go.RowKit
noncomputable def absL : Value → Option Lf
  | .bool x => some (.b x)
  | .int k n => some (.i k n)
  | .string s => some (.s (s.data.toList.map UInt8.toNat))
  | .pointer none => some (.p none)
  | .slice none 0 0 => some (.sl none 0 0)
  | .map none => some (.m none)
  | .agg _ => none
  | .tuple _ => none
  | v => some (.raw v)
noncomputable def absLs : List Value → Option (List Lf)
  | [] => some []
  | v :: l => match absL v with
    | some x => match absLs l with
      | some r => some (x :: r)
      | none => none
    | none => none
noncomputable def absE : Value → Option AE
  | .agg cs => match absLs cs.toList with
    | some l => some (.ag l)
    | none => none
  | v => match absL v with
    | some x => some (.lf x)
    | none => none
noncomputable def absEs : List Value → Option (List AE)
  | [] => some []
  | v :: l => match absE v with
    | some x => match absEs l with
      | some r => some (x :: r)
      | none => none
    | none => none
noncomputable def absV : Value → Option AV
  | .tuple vs => match absEs vs.toList with
    | some l => some (.tu l)
    | none => none
  | v => match absE v with
    | some x => some (.e x)
    | none => none
theorem bs_back (s : ByteArray) : bs (s.data.toList.map UInt8.toNat) = s := by
  unfold bs
  rw [List.map_map]
  have : (UInt8.ofNat ∘ UInt8.toNat) = id := by
    funext c
    simp
  rw [this, List.map_id]
theorem absL_R {σ : Sg} {v : Value} {x : Lf} (h : absL v = some x) : x.R σ v := by
  unfold absL at h
  split at h <;> first | (cases h; done) | skip
  all_goals (obtain rfl := Option.some.inj h)
  all_goals first
    | exact rfl
    | exact ⟨(congrArg Value.string (bs_back _)).symm, fun c hc => by obtain ⟨y, -, rfl⟩ := List.mem_map.1 hc; exact y.toNat_lt⟩
    | exact ⟨rfl, rfl⟩
    | skip
  refine ⟨rfl, ?_⟩
  cases v <;> first | rfl | (exfalso; simp_all; done)
theorem absLs_R {σ : Sg} : ∀ {l : List Value} {r : List Lf}, absLs l = some r → RL σ r l
  | [], r, h => by
    obtain rfl := Option.some.inj h
    trivial
  | v :: l, r, h => by
    unfold absLs at h
    cases hx : absL v with
    | none => rw [hx] at h; cases h
    | some x =>
      cases hl : absLs l with
      | none => rw [hx, hl] at h; cases h
      | some q =>
        rw [hx, hl] at h
        obtain rfl := Option.some.inj h
        exact ⟨absL_R hx, absLs_R hl⟩
theorem absE_R {σ : Sg} {v : Value} {x : AE} (h : absE v = some x) : x.R σ v := by
  unfold absE at h
  split at h
  · rename_i cs
    cases hl : absLs cs.toList with
    | none => rw [hl] at h; cases h
    | some l =>
      rw [hl] at h
      obtain rfl := Option.some.inj h
      exact ⟨cs.toList, absLs_R hl, by simp⟩
  · cases hx : absL v with
    | none => rw [hx] at h; cases h
    | some y =>
      rw [hx] at h
      obtain rfl := Option.some.inj h
      exact absL_R hx
theorem absEs_R {σ : Sg} : ∀ {l : List Value} {r : List AE}, absEs l = some r → RE σ r l
  | [], r, h => by
    obtain rfl := Option.some.inj h
    trivial
  | v :: l, r, h => by
    unfold absEs at h
    cases hx : absE v with
    | none => rw [hx] at h; cases h
    | some x =>
      cases hl : absEs l with
      | none => rw [hx, hl] at h; cases h
      | some q =>
        rw [hx, hl] at h
        obtain rfl := Option.some.inj h
        exact ⟨absE_R hx, absEs_R hl⟩
theorem absV_R {σ : Sg} {v : Value} {x : AV} (h : absV v = some x) : x.R σ v := by
  unfold absV at h
  split at h
  · rename_i vs
    cases hl : absEs vs.toList with
    | none => rw [hl] at h; cases h
    | some l =>
      rw [hl] at h
      obtain rfl := Option.some.inj h
      exact ⟨vs.toList, absEs_R hl, by simp⟩
  · cases hx : absE v with
    | none => rw [hx] at h; cases h
    | some y =>
      rw [hx] at h
      obtain rfl := Option.some.inj h
      exact absE_R hx
/-! ### back: only what names no block -/
noncomputable def concL : Lf → Option Value
  | .b x => some (.bool x)
  | .i k n => some (.int k n)
  | .s l => some (.string (bs l))
  | .p none => some (.pointer none)
  | .sl none _ _ => some (.slice none 0 0)
  | .m none => some (.map none)
  | .fn f [] => some (.func (.func f) #[] #[])
  | .raw v => some v
  | _ => none
noncomputable def concLs : List Lf → Option (List Value)
  | [] => some []
  | x :: l => match concL x with
    | some v => match concLs l with
      | some r => some (v :: r)
      | none => none
    | none => none
noncomputable def concE : AE → Option Value
  | .lf x => concL x
  | .ag l => match concLs l with
    | some r => some (.agg r.toArray)
    | none => none
noncomputable def concEs : List AE → Option (List Value)
  | [] => some []
  | x :: l => match concE x with
    | some v => match concEs l with
      | some r => some (v :: r)
      | none => none
    | none => none
noncomputable def concV : AV → Option Value
  | .e x => concE x
  | .tu l => match concEs l with
    | some r => some (.tuple r.toArray)
    | none => none
theorem concL_eq {σ : Sg} {x : Lf} {u v : Value} (h : concL x = some u) (hr : x.R σ v) : v = u := by
  unfold concL at h
  split at h <;> first | (cases h; done) | skip
  all_goals (obtain rfl := Option.some.inj h)
  all_goals first
    | exact hr
    | exact hr.1
    | skip
  obtain ⟨vs, h1, h2⟩ := hr
  cases vs with
  | nil => exact h2
  | cons _ _ => exact h1.elim
theorem concLs_eq {σ : Sg} : ∀ {l : List Lf} {r vs : List Value}, concLs l = some r → RL σ l vs → vs = r
  | [], r, vs, h, hr => by
    obtain rfl := Option.some.inj h
    cases vs with
    | nil => rfl
    | cons _ _ => exact hr.elim
  | x :: l, r, vs, h, hr => by
    unfold concLs at h
    cases hx : concL x with
    | none => rw [hx] at h; cases h
    | some v =>
      cases hl : concLs l with
      | none => rw [hx, hl] at h; cases h
      | some q =>
        rw [hx, hl] at h
        obtain rfl := Option.some.inj h
        cases vs with
        | nil => exact hr.elim
        | cons y ys => rw [concL_eq hx hr.1, concLs_eq hl hr.2]
theorem concE_eq {σ : Sg} {x : AE} {u v : Value} (h : concE x = some u) (hr : x.R σ v) : v = u := by
  cases x with
  | lf y => exact concL_eq h hr
  | ag l =>
    unfold concE at h
    dsimp only at h
    obtain ⟨vs, h1, rfl⟩ := hr
    cases hl : concLs l with
    | none => rw [hl] at h; cases h
    | some q =>
      rw [hl] at h
      obtain rfl := Option.some.inj h
      rw [concLs_eq hl h1]
theorem concEs_eq {σ : Sg} : ∀ {l : List AE} {r vs : List Value}, concEs l = some r → RE σ l vs → vs = r
  | [], r, vs, h, hr => by
    obtain rfl := Option.some.inj h
    cases vs with
    | nil => rfl
    | cons _ _ => exact hr.elim
  | x :: l, r, vs, h, hr => by
    unfold concEs at h
    cases hx : concE x with
    | none => rw [hx] at h; cases h
    | some v =>
      cases hl : concEs l with
      | none => rw [hx, hl] at h; cases h
      | some q =>
        rw [hx, hl] at h
        obtain rfl := Option.some.inj h
        cases vs with
        | nil => exact hr.elim
        | cons y ys => rw [concE_eq hx hr.1, concEs_eq hl hr.2]
theorem concV_eq {σ : Sg} {x : AV} {u v : Value} (h : concV x = some u) (hr : x.R σ v) : v = u := by
  cases x with
  | e y => exact concE_eq h hr
  | tu l =>
    unfold concV at h
    dsimp only at h
    obtain ⟨vs, h1, rfl⟩ := hr
    cases hl : concEs l with
    | none => rw [hl] at h; cases h
    | some q =>
      rw [hl] at h
      obtain rfl := Option.some.inj h
      rw [concEs_eq hl h1]
/-- What asks nothing of the world. -/
noncomputable def pureRun (P : Program) {α : Type} : Sem α → Option α
  | .pure a => some a
  | .program k => pureRun P (k P)
  | _ => none
theorem pureRun_ok {P : Program} {α : Type} : ∀ {s : Sem α} {a : α} (w : World), pureRun P s = some a → s.run P w = .ok a w
  | .pure a, b, w, h => by
    obtain rfl := Option.some.inj h
    rfl
  | .program k, b, w, h => by
    show (k P).run P w = _
    exact pureRun_ok w h
  | .load _ _ _, _, _, h | .store _ _ _ _, _, _, h | .new _ _, _, _, h | .shape _ _, _, _, h | .freeze _ _ _, _, _, h | .frozen _ _, _, _, h | .getObj _ _, _, _, h | .setObj _ _ _, _, _, h
  | .choose _ _, _, _, h | .sys _ _, _, _, h | .mark _ _, _, _, h | .halt _, _, _, h => by cases h
/-- An operation whose operands name no block, by the machine's own rule. -/
noncomputable def fallOp (P : Program) (ρ : Operand → Option AV) (o : Oper) : Option AV :=
  bif o.op.operands.toList.all (fun x => ((ρ x).bind concV).isSome) then
    match pureRun P (execOp (fun x => ((ρ x).bind concV).getD undef) o) with
    | some (.value v) => absV v
    | _ => none
  else none
/-- The operands' values. -/
noncomputable def HA (σ : Sg) (ρ : Operand → Option AV) (ev : Operand → Value) : Prop := ∀ x a, ρ x = some a → a.R σ (ev x)
theorem fallOp_ok {P : Program} {σ : Sg} {ρ : Operand → Option AV} {ev : Operand → Value} (hA : HA σ ρ ev) {o : Oper} (hs : ∀ cs b, o.op ≠ .select cs b) {v : AV} (h : fallOp P ρ o = some v) (w : World) :
    ∃ u, (execOp ev o).run P w = .ok (.value u) w ∧ v.R σ u := by
  unfold fallOp at h
  cases hall : o.op.operands.toList.all (fun x => ((ρ x).bind concV).isSome) with
  | false => rw [hall] at h; cases h
  | true =>
    rw [hall] at h
    simp only [cond_true] at h
    have hc : execOp ev o = execOp (fun x => ((ρ x).bind concV).getD undef) o := execOp_congr o hs fun x hx => by
      have h1 := List.all_eq_true.1 hall x (by simpa using hx)
      cases hr : ρ x with
      | none => rw [hr] at h1; cases h1
      | some a =>
        rw [hr] at h1
        cases hv : concV a with
        | none => rw [Option.bind_some, hv] at h1; cases h1
        | some u => rw [concV_eq hv (hA x a hr)]; simp [hr, hv]
    rw [hc]
    split at h
    · rename_i u hu
      exact ⟨u, pureRun_ok w hu, absV_R h⟩
    · cases h
end Go.Proofs.YtffccgnhdpjlaaaGreatDoor.Ev
