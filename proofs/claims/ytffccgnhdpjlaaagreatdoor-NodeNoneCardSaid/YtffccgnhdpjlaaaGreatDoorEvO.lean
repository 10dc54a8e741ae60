/- Functions, by the runner; the whole of it by a purse of steps. -/
import Derived.Test.YtffccgnhdpjlaaaGreatDoorEvN
set_option linter.unusedVariables false
set_option linter.unusedSimpArgs false
namespace Go.Proofs.YtffccgnhdpjlaaaGreatDoor.Ev
open Go Go.RowKit
/-! ### results -/
noncomputable def resL (P : Program) (H : Tr AO) (R : Tr AV) : List ResultVar → Option (List AV)
  | [] => some []
  | .tmp t :: l => (match R.get t with
    | some x => (match resL P H R l with
      | some r => some (x :: r)
      | none => none)
    | none => none)
  | .cell a t :: l => (match evLoad P H t (R.get a) with
    | some (.v x) => (match resL P H R l with
      | some r => some (x :: r)
      | none => none)
    | _ => none)
noncomputable def aes : List AV → Option (List AE)
  | [] => some []
  | .e x :: l => (match aes l with
    | some r => some (x :: r)
    | none => none)
  | .tu _ :: _ => none
noncomputable def resV (P : Program) (H : Tr AO) (R : Tr AV) (l : List ResultVar) : Option AV := match resL P H R l with
  | some [x] => some x
  | some l => (match aes l with
    | some r => some (.tu r)
    | none => none)
  | none => none
theorem aes_ok {σ : Sg} : ∀ {l : List AV} {r : List AE} {vs : List Value}, aes l = some r → RV σ l vs → RE σ r vs
  | [], r, vs, h, hr => by
    obtain rfl := Option.some.inj h
    cases vs with
    | nil => trivial
    | cons _ _ => exact hr.elim
  | .e x :: l, r, v :: vs, h, hr => by
    unfold aes at h
    cases hl : aes l with
    | none => rw [hl] at h; cases h
    | some q =>
      rw [hl] at h
      obtain rfl := Option.some.inj h
      exact ⟨hr.1, aes_ok hl hr.2⟩
  | .tu _ :: l, r, vs, h, hr => by cases h
  | .e x :: l, r, [], h, hr => hr.elim
theorem resL_ok {σ : Sg} {n : Nat} {R : Tr AV} {a : Act} {P : Program} {w : World} {H : Tr AO} (hL : LiveAt σ H w) (hT : TR σ n R a) : ∀ {l : List ResultVar} {r : List AV}, resL P H R l = some r →
    ∃ vs : List Value, RV σ r vs ∧ (l.mapM (m := Sem) fun
      | .tmp t => pure (a.tmps.getD t undef)
      | .cell x t => do loadVar t (← asAddr (a.tmps.getD x undef))).run P w = .ok vs w
  | [], r, h => by
    obtain rfl := Option.some.inj h
    exact ⟨[], trivial, by simp⟩
  | .tmp t :: l, r, h => by
    unfold resL at h
    cases hx : R.get t with
    | none => rw [hx] at h; cases h
    | some x =>
      rw [hx] at h
      dsimp only at h
      cases hl : resL P H R l with
      | none => rw [hl] at h; cases h
      | some q =>
        rw [hl] at h
        obtain rfl := Option.some.inj h
        obtain ⟨vs, h1, h2⟩ := resL_ok hL hT hl
        refine ⟨_ :: vs, ⟨hT.2 t x hx, h1⟩, ?_⟩
        rw [List.mapM_cons]
        simp only [Sem.run_bind, Sem.run_pure, Result.andThen_ok]
        rw [h2]
        rfl
  | .cell ad t :: l, r, h => by
    unfold resL at h
    cases hx : evLoad P H t (R.get ad) with
    | none => rw [hx] at h; cases h
    | some q0 =>
      rw [hx] at h
      cases q0 with
      | nw _ _ => cases h
      | v x =>
        dsimp only at h
        cases hl : resL P H R l with
        | none => rw [hl] at h; cases h
        | some q =>
          rw [hl] at h
          obtain rfl := Option.some.inj h
          obtain ⟨vs, h1, h2⟩ := resL_ok hL hT hl
          have hv : ∀ y, R.get ad = some y → y.R σ (a.tmps.getD ad undef) := fun y hy => hT.2 ad y hy
          obtain ⟨u, k1, k2⟩ := evLoad_ok (nm := 0) hL hv hx
          have hp : ∃ d, a.tmps.getD ad undef = .pointer (some d) := by
            unfold evLoad at hx
            split at hx
            · rename_i nn o hR
              obtain ⟨d, -, hd⟩ := hv _ hR
              exact ⟨d, hd⟩
            · cases hx
          obtain ⟨d, hd⟩ := hp
          rw [hd] at k1
          refine ⟨u :: vs, ⟨k2, h1⟩, ?_⟩
          have hrun : ((do loadVar t (← asAddr (a.tmps.getD ad undef)) : Sem Value)).run P w = .ok u w := by
            rw [hd]
            exact k1
          rw [List.mapM_cons]
          simp only [Sem.run_bind, Sem.run_pure, Result.andThen_ok] at hrun ⊢
          rw [hrun]
          simp only [Result.andThen_ok]
          rw [h2]
          rfl
theorem resV_ok {σ : Sg} {n : Nat} {R : Tr AV} {a : Act} {P : Program} {w : World} {H : Tr AO} (hL : LiveAt σ H w) (hT : TR σ n R a) {fn : Func} {x : AV} (h : resV P H R fn.results.toList = some x) : ∃ v, (results fn a.tmps).run P w = .ok v w ∧ x.R σ v := by
  unfold resV at h
  have key : ∀ r, resL P H R fn.results.toList = some r → ∃ vs : List Value, RV σ r vs ∧ (results fn a.tmps).run P w = .ok (if h : vs.toArray.size = 1 then vs.toArray[0] else .tuple vs.toArray) w := fun r hr => by
    obtain ⟨vs, h1, h2⟩ := resL_ok hL hT hr
    refine ⟨vs, h1, ?_⟩
    unfold results
    rw [Array.mapM_eq_mapM_toList]
    simp only [map_eq_pure_bind, Sem.run_bind]
    erw [h2]
    simp
  split at h
  · rename_i y hr
    obtain rfl := Option.some.inj h
    obtain ⟨vs, h1, h2⟩ := key _ hr
    cases vs with
    | nil => exact h1.elim
    | cons v vs =>
      cases vs with
      | cons _ _ => exact h1.2.elim
      | nil => exact ⟨v, by simpa using h2, h1.1⟩
  · rename_i l hne hr
    cases ha : aes l with
    | none => rw [ha] at h; cases h
    | some r =>
      rw [ha] at h
      obtain rfl := Option.some.inj h
      obtain ⟨vs, h1, h2⟩ := key _ hr
      have hE := aes_ok ha h1
      by_cases hs : vs.toArray.size = 1
      · exfalso
        cases vs with
        | nil => simp at hs
        | cons v vs =>
          cases vs with
          | cons _ _ => simp at hs
          | nil =>
            cases l with
            | nil => exact h1.elim
            | cons y l =>
              cases l with
              | cons _ _ => exact h1.2.elim
              | nil => exact hne y rfl
      · rw [dif_neg hs] at h2
        exact ⟨_, h2, vs, hE, rfl⟩
  · cases h
/-! ### a function's call -/
noncomputable def argT : List AV → Nat → Tr AV → Option (Tr AV)
  | [], _, R => some R
  | x :: l, i, R => (match Tr.upd (some x) purse R i with
    | some R' => argT l (i + 1) R'
    | none => none)
theorem argT_get : ∀ {l : List AV} {i : Nat} {R R' : Tr AV}, argT l i R = some R' → ∀ t x, R'.get t = some x → (∃ j, t = i + j ∧ l[j]? = some x) ∨ (R.get t = some x)
  | [], i, R, R', h, t, x, hx => by
    obtain rfl := Option.some.inj h
    exact Or.inr hx
  | y :: l, i, R, R', h, t, x, hx => by
    unfold argT at h
    cases hu : Tr.upd (some y) purse R i with
    | none => rw [hu] at h; cases h
    | some R1 =>
      rw [hu] at h
      rcases argT_get h t x hx with ⟨j, rfl, hj⟩ | h1
      · exact Or.inl ⟨j + 1, by omega, by simpa using hj⟩
      · rw [Tr.get_upd _ _ _ _ _ hu] at h1
        by_cases e : t = i
        · rw [if_pos e] at h1
          exact Or.inl ⟨0, by omega, by simpa using h1⟩
        · rw [if_neg e] at h1
          exact Or.inr h1
theorem RV_get {σ : Sg} : ∀ {l : List AV} {vs : List Value}, RV σ l vs → ∀ (i : Nat) (x : AV), l[i]? = some x → ∃ v, vs[i]? = some v ∧ x.R σ v
  | [], [], _, _, _, h => by simp at h
  | _ :: _, v :: _, h, 0, x, hx => by
    simp only [List.getElem?_cons_zero, Option.some.injEq] at hx
    subst hx
    exact ⟨v, rfl, h.1⟩
  | _ :: _, _ :: _, h, i + 1, x, hx => by
    simp only [List.getElem?_cons_succ] at hx ⊢
    exact RV_get h.2 i x hx
  | [], _ :: _, h, _, _, _ => h.elim
  | _ :: _, [], h, _, _, _ => h.elim
theorem RV_len {σ : Sg} : ∀ {l : List AV} {vs : List Value}, RV σ l vs → l.length = vs.length
  | [], [], _ => rfl
  | _ :: _, _ :: _, h => by rw [List.length_cons, List.length_cons, RV_len h.2]
  | [], _ :: _, h => h.elim
  | _ :: _, [], h => h.elim
theorem Tr.get_nil {α : Type} (n : Nat) : (Tr.nil : Tr α).get n = none := rfl
/-- What is put off does nothing. -/
theorem leaves_idle {P : Program} {fn : Func} {tmps : Array Value} {R : Ending → World → Prop} {v : Value} {w : World} (hr : (results fn tmps).run P w = .ok v w) (hR : R (.returned v) w) : ∀ {l : List Deferred}, DfOk P l → Leaves P fn tmps R l .returning w := by
  intro l
  induction l with
  | nil => exact fun _ => ⟨v, hr, hR⟩
  | cons d l ih =>
    intro h
    obtain ⟨fv, cap, f, args, h1, h2, h3⟩ := h d (List.mem_cons_self ..)
    refine ⟨by simp, fv, cap, f, args, h1, h2 w, (h3 w).mono fun e u' w' he => ?_⟩
    obtain ⟨⟨u, rfl⟩, rfl, rfl⟩ := he
    exact ih fun x hx => h x (List.mem_cons_of_mem _ hx)
/-- A function, its text run. -/
noncomputable def callBy (P : Program) (FT : FuncId → Option Func) (self : Self) : Doer := fun f axs S => match FT f with
  | some fn => (match fn.body with
    | some c => (match argT axs 0 .nil with
      | some R => (match self (axs.length + (fn.ntmps - axs.length)) (.cd c) R S with
        | some ⟨.go, R', S'⟩ => (match resV P S'.H R' fn.results.toList with
          | some x => fAV x fun x => some (x, S')
          | none => none)
        | some ⟨.rt, R', S'⟩ => (match resV P S'.H R' fn.results.toList with
          | some x => fAV x fun x => some (x, S')
          | none => none)
        | _ => none)
      | none => none)
    | none => none)
  | none => none
section
variable {P : Program} {K : Kt} {FT : FuncId → Option Func} {self : Self}
theorem callFunc_body {f : FuncId} {fn : Func} {c : Code} {args : Array Value} {w : World} (hf : P.funcs[f]? = some fn) (hb : fn.body = some c) (hn : (fn.name == "runtime.NumGoroutine") = false) : (callFunc f args).run P w = .ok (.enter f args) w := by
  have hn' : fn.name ≠ "runtime.NumGoroutine" := fun e => by rw [e] at hn; simp at hn
  simp [callFunc, hf, hb, hn']
theorem callBy_calls (hFT : ∀ f fn, FT f = some fn → P.funcs[f]? = some fn ∧ (fn.name == "runtime.NumGoroutine") = false) (hS : SelfOk P K self) : ∀ f axs S x T, callBy P FT self f axs S = some (x, T) → ∀ w0 σ w vs, GOk K w0 → EOk P K σ → Ok w0 σ S w → RV σ axs vs →
    (callFunc f vs.toArray).run P w = .ok (.enter f vs.toArray) w ∧ Calls P f vs.toArray w fun e w' => ∃ u, e = .returned u ∧ ∃ τ, x.R τ u ∧ Ok w0 τ T w' ∧ Fr σ S w τ T w' := by
  intro f axs S x T h w0 σ w vs h0 hE hO hR
  unfold callBy at h
  cases hf : FT f with
  | none => rw [hf] at h; cases h
  | some fn =>
    rw [hf] at h
    dsimp only at h
    obtain ⟨hP, hnm⟩ := hFT f fn hf
    cases hb : fn.body with
    | none => rw [hb] at h; cases h
    | some c =>
      rw [hb] at h
      dsimp only at h
      cases ha : argT axs 0 .nil with
      | none => rw [ha] at h; cases h
      | some R =>
        rw [ha] at h
        dsimp only at h
        refine ⟨callFunc_body hP hb hnm, calls_of_wp_defers hP hb ?_⟩
        have hlen := RV_len hR
        have hT : TR σ (axs.length + (fn.ntmps - axs.length)) R { tmps := vs.toArray ++ Array.replicate (fn.ntmps - vs.toArray.size) undef, defers := [] } := by
          refine ⟨by simp [hlen], fun t y ht => ?_⟩
          rcases argT_get ha t y ht with ⟨j, rfl, hj⟩ | h1
          · obtain ⟨v, k1, k2⟩ := RV_get hR j y hj
            have hlt : j < vs.length := (List.getElem?_eq_some_iff.1 k1).1
            rw [Nat.zero_add]
            have e1 : (vs.toArray ++ Array.replicate (fn.ntmps - vs.toArray.size) undef).getD j undef = v := by
              rw [Array.getD_eq_getD_getElem?, Array.getElem?_append_left (by simpa using hlt)]
              simp [k1]
            show y.R σ ((vs.toArray ++ Array.replicate (fn.ntmps - vs.toArray.size) undef).getD j undef)
            rw [e1]
            exact k2
          · rw [Tr.get_nil] at h1
            cases h1
        have fin : ∀ (r : Rs) (R' : Tr AV) (S' : St), (r = .go ∨ r = .rt) → self (axs.length + (fn.ntmps - axs.length)) (.cd c) R S = some ⟨r, R', S'⟩ → (match resV P S'.H R' fn.results.toList with
            | some x => fAV x fun x => some (x, S')
            | none => none) = some (x, T) → c.wp P (bodyPostD P fn fun e w' => ∃ u, e = .returned u ∧ ∃ τ, x.R τ u ∧ Ok w0 τ T w' ∧ Fr σ S w τ T w') { tmps := vs.toArray ++ Array.replicate (fn.ntmps - vs.toArray.size) undef, defers := [] } w := fun r R' S' hr hs hx => by
          cases hv : resV P S'.H R' fn.results.toList with
          | none => rw [hv] at hx; cases hx
          | some y =>
            rw [hv] at hx
            dsimp only at hx
            rw [fAV_eq] at hx
            simp only [Option.some.injEq, Prod.mk.injEq] at hx
            obtain ⟨rfl, rfl⟩ := hx
            refine wp_mono (hS _ (.cd c) R S _ hs w0 σ _ w h0 hE hO hT DfOk.nil) fun e a' w' hp => ?_
            obtain ⟨rfl, hd, τ, k1, k2, k3⟩ := hp
            obtain ⟨v, r1, r2⟩ := resV_ok k1.liveAt k3 hv
            rcases hr with rfl | rfl
            · exact leaves_idle r1 ⟨v, rfl, τ, r2, k1, k2⟩ hd
            · exact leaves_idle r1 ⟨v, rfl, τ, r2, k1, k2⟩ hd
        cases hs : self (axs.length + (fn.ntmps - axs.length)) (.cd c) R S with
        | none => rw [hs] at h; cases h
        | some o =>
          obtain ⟨r, R', S'⟩ := o
          rw [hs] at h
          cases r with
          | go => exact fin .go R' S' (Or.inl rfl) hs h
          | rt => exact fin .rt R' S' (Or.inr rfl) hs h
          | ex _ => cases h
          | gt _ => cases h
theorem callBy_ok (hFT : ∀ f fn, FT f = some fn → P.funcs[f]? = some fn ∧ (fn.name == "runtime.NumGoroutine") = false) (hS : SelfOk P K self) : DoerOk P K (callBy P FT self) := fun f axs S x T h w0 σ w vs h0 hE hO hR => Or.inr (callBy_calls hFT hS f axs S x T h w0 σ w vs h0 hE hO hR)
/-- Functions told by a law of their own, ahead of those whose text is run. -/
noncomputable def orElse (A : FuncId → Option (List AV → St → Option (AV × St))) (B : Doer) : Doer := fun f axs S => match A f with
  | some g => g axs S
  | none => B f axs S
theorem orElse_ok {A : FuncId → Option (List AV → St → Option (AV × St))} {B : Doer} (hA : ∀ f g, A f = some g → DoerOk P K fun f' axs S => bif Nat.beq f' f then g axs S else none) (hB : DoerOk P K B) : DoerOk P K (orElse A B) := by
  intro f axs S x T h
  unfold orElse at h
  cases ha : A f with
  | none => rw [ha] at h; exact hB f axs S x T h
  | some g =>
    rw [ha] at h
    exact hA f g ha f axs S x T (by simpa using h)
end
end Go.Proofs.YtffccgnhdpjlaaaGreatDoor.Ev
