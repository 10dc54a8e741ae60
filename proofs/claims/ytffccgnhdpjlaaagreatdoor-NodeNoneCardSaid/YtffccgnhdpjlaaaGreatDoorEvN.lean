/- Code, by the runner: regions in the order of the text, blocks, loops, labels, functions. -/
import Derived.Test.YtffccgnhdpjlaaaGreatDoorEvM
set_option linter.unusedVariables false
set_option linter.unusedSimpArgs false
namespace Go.Proofs.YtffccgnhdpjlaaaGreatDoor.Ev
open Go Go.RowKit
/-! ### regions in the order of the text -/
/-- What an operation yielded: none, if the runner does not know. -/
noncomputable def yieldT (ops : Array Oper) (R : Tr AV) (j : Nat) : Option (Option Bool) := match ops[j]? with
  | some o => (match o.dst with
    | some d => (match R.get d with
      | some (.e (.lf (.b x))) => some (some x)
      | some (.tu _) => some none
      | _ => none)
    | none => none)
  | none => none
theorem yieldT_ok {σ : Sg} {n : Nat} {R : Tr AV} {a : Act} (hT : TR σ n R a) {ops : Array Oper} {j : Nat} {b : Option Bool} (h : yieldT ops R j = some b) : yielded ops a.tmps j = b := by
  unfold yieldT at h
  unfold yielded
  cases hj : ops[j]? with
  | none => rw [hj] at h; cases h
  | some o =>
    rw [hj] at h
    dsimp only at h
    rw [Option.bind_some]
    cases hd : o.dst with
    | none => rw [hd] at h; cases h
    | some d =>
      rw [hd] at h
      dsimp only at h
      rw [Option.bind_some]
      split at h
      · rename_i x hR
        obtain rfl := Option.some.inj h
        have hv : a.tmps.getD d undef = .bool x := hT.2 d _ hR
        rw [Array.getD_eq_getD_getElem?] at hv
        cases hg : a.tmps[d]? with
        | none => rw [hg] at hv; cases hv
        | some v => rw [hg] at hv; obtain rfl : v = _ := hv; rfl
      · rename_i l hR
        obtain rfl := Option.some.inj h
        obtain ⟨vs, -, hv⟩ : (AV.tu l).R σ _ := hT.2 d _ hR
        rw [Array.getD_eq_getD_getElem?] at hv
        cases hg : a.tmps[d]? with
        | none => rfl
        | some v => rw [hg] at hv; obtain rfl : v = _ := hv; rfl
      · cases h
/-- Is it wanted? -/
noncomputable def wantT (ops : Array Oper) (R : Tr AV) (o : Oper) : Option Bool := match o.guard with
  | none => some true
  | some (j, want) => (match yieldT ops R j with
    | some (some b) => some (b == want)
    | some none => some false
    | none => none)
theorem wantT_ok {σ : Sg} {n : Nat} {R : Tr AV} {a : Act} (hT : TR σ n R a) {ops : Array Oper} {o : Oper} {b : Bool} (h : wantT ops R o = some b) : Region.wanted o (yielded ops a.tmps) = b := by
  unfold wantT at h
  unfold Region.wanted
  split at h
  · rename_i hg
    rw [hg]
    exact Option.some.inj h
  · rename_i j want hg
    rw [hg]
    dsimp only
    split at h
    · rename_i b' hy
      rw [yieldT_ok hT hy]
      obtain rfl := Option.some.inj h
      cases b' <;> cases want <;> rfl
    · rename_i hy
      rw [yieldT_ok hT hy]
      obtain rfl := Option.some.inj h
      rfl
    · cases h
noncomputable def opsRun (P : Program) (K : Kt) (F : Doer) (n : Nat) (ops : Array Oper) : List Oper → Tr AV → St → Option (Tr AV × St)
  | [], R, S => some (R, S)
  | o :: l, R, S => match wantT ops R o with
    | some true => (match evOpF P K F n R S o with
      | some (R', S') => opsRun P K F n ops l R' S'
      | none => none)
    | some false => (match setT n R o.dst (.tu []) with
      | some R' => opsRun P K F n ops l R' S
      | none => none)
    | none => none
section
variable {P : Program} {K : Kt} {w0 : World} {F : Doer}
theorem opsRun_ok (hI : IdlOk P K) (hG : GOk K w0) (hF : DoerOk P K F) {n : Nat} {ops : Array Oper} {Q : Exit → Act → World → Prop} {R' : Tr AV} {T : St} : ∀ (l : List Oper) (k : Nat) (R : Tr AV) (S : St) (σ : Sg) (a : Act) (w : World), (∀ j, l[j]? = ops[k + j]?) → k + l.length = ops.size → opsRun P K F n ops l R S = some (R', T) → TR σ n R a → EOk P K σ → Ok w0 σ S w →
    (∀ a' w' τ, (DfOk P a.defers → DfOk P a'.defers) → TR τ n R' a' → Ok w0 τ T w' → Fr σ S w τ T w' → Q .normal a' w') → wpOps P ops Q (List.range' k l.length) a w
  | [], k, R, S, σ, a, w, hl, hs, h, hT, hE, hO, hQ => by
    simp only [opsRun, Option.some.injEq, Prod.mk.injEq] at h
    obtain ⟨rfl, rfl⟩ := h
    exact hQ a w σ (fun h => h) hT hO (Fr.refl ..)
  | o :: l, k, R, S, σ, a, w, hl, hs, h, hT, hE, hO, hQ => by
    have ho : ops[k]? = some o := by
      have := hl 0
      simpa using this.symm
    have hl' : ∀ j, l[j]? = ops[k + 1 + j]? := fun j => by
      have := hl (j + 1)
      rw [List.getElem?_cons_succ] at this
      rw [this]
      congr 1
      omega
    have hs' : k + 1 + l.length = ops.size := by simp only [List.length_cons] at hs; omega
    rw [List.length_cons, List.range'_succ]
    simp only [wpOps, ho]
    unfold opsRun at h
    cases hw : wantT ops R o with
    | none => rw [hw] at h; cases h
    | some b =>
      rw [hw] at h
      rw [wantT_ok hT hw]
      cases b with
      | true =>
        dsimp only at h
        rw [if_pos rfl]
        cases he : evOpF P K F n R S o with
        | none => rw [he] at h; cases h
        | some y =>
          obtain ⟨R1, S1⟩ := y
          rw [he] at h
          dsimp only at h
          refine Or.inl (evOp_ok hI hG hE hF hT hO (evOpF_eq he) fun a' w' τ h1 h2 h3 h4 => opsRun_ok hI hG hF l (k + 1) R1 S1 τ a' w' hl' hs' h h2 (hE.mono h4.sub) h3 fun a2 w2 υ k1 k2 k3 k4 => hQ a2 w2 υ (fun hd => k1 (h1 hd)) k2 k3 (h4.trans k4))
      | false =>
        dsimp only at h
        rw [if_neg (by simp)]
        cases hR : setT n R o.dst (.tu []) with
        | none => rw [hR] at h; cases h
        | some R1 =>
          rw [hR] at h
          dsimp only at h
          have hT' : TR σ n R1 (a.put o.dst undef) := hT.set hR ⟨[], trivial, rfl⟩
          exact opsRun_ok hI hG hF l (k + 1) R1 S σ _ w hl' hs' h hT' hE hO fun a2 w2 υ k1 k2 k3 k4 => hQ a2 w2 υ (fun hd => k1 (by rw [put_defers]; exact hd)) k2 k3 k4
end
/-! ### code -/
inductive Rs where
  | go
  | ex (id : Nat)
  | gt (l : Nat)
  | rt
noncomputable def Rs.exit : Rs → Exit
  | .go => .normal
  | .ex id => .exit id
  | .gt l => .goto l
  | .rt => .ret
structure Out where
  r : Rs
  R : Tr AV
  S : St
/-- What is to be run: code; a loop's next turn; a scope from a label on. -/
inductive Tk where
  | cd (c : Code)
  | lp (b : Code)
  | sc (c r : Code)
noncomputable def Tk.items : Tk → List Item → List Item
  | .cd c, k => .code c :: k
  | .lp b, k => .code b :: .inLoop b :: k
  | .sc c r, k => .code r :: .inScope c :: k
noncomputable def Tk.wp (P : Program) (t : Tk) (Q : Exit → Act → World → Prop) (a : Act) (w : World) : Prop :=
  ∀ (b : Frame) (k : List Item) (cs : List Frame), ∃ e a' w', Q e a' w' ∧ Arrives P (lone (b.at a (t.items k)) cs w) b k cs e a' w'
noncomputable def Post (P : Program) (w0 : World) (σ : Sg) (S : St) (w : World) (n : Nat) (o : Out) : Exit → Act → World → Prop := fun e a' w' =>
  e = o.r.exit ∧ DfOk P a'.defers ∧ ∃ τ, Ok w0 τ o.S w' ∧ Fr σ S w τ o.S w' ∧ TR τ n o.R a'
abbrev Self := Nat → Tk → Tr AV → St → Option Out
noncomputable def SelfOk (P : Program) (K : Kt) (self : Self) : Prop := ∀ n t R S o, self n t R S = some o → ∀ w0 σ a w, GOk K w0 → EOk P K σ → Ok w0 σ S w → TR σ n R a → DfOk P a.defers → t.wp P (Post P w0 σ S w n o) a w
abbrev Regs := Nat → Array Oper → Tr AV → St → Option (Tr AV × St)
/-- Regions of open order: what the runner makes of them holds in every order. -/
noncomputable def RegsOk (P : Program) (K : Kt) (G : Regs) : Prop := ∀ n ops R S R' T, G n ops R S = some (R', T) → ∀ w0 σ a w (id : Nat) (Q : Exit → Act → World → Prop), GOk K w0 → EOk P K σ → Ok w0 σ S w → TR σ n R a →
  (∀ a' w' τ, (DfOk P a.defers → DfOk P a'.defers) → TR τ n R' a' → Ok w0 τ T w' → Fr σ S w τ T w' → Q .normal a' w') → (Code.region id ops true).wp P Q a w
noncomputable def stepC (P : Program) (K : Kt) (F : Doer) (G : Regs) (self : Self) (n : Nat) (t : Tk) (R : Tr AV) (S : St) : Option Out := match t with
  | .cd .skip => some ⟨.go, R, S⟩
  | .cd (.label _) => some ⟨.go, R, S⟩
  | .cd (.seq a b) => (match self n (.cd a) R S with
    | some ⟨.go, R', S'⟩ => self n (.cd b) R' S'
    | o => o)
  | .cd (.cond x a b) => (match rho R x with
    | some (.e (.lf (.b true))) => self n (.cd a) R S
    | some (.e (.lf (.b false))) => self n (.cd b) R S
    | _ => none)
  | .cd (.block id b) => (match self n (.cd b) R S with
    | some ⟨.ex i, R', S'⟩ => bif Nat.beq i id then some ⟨.go, R', S'⟩ else some ⟨.ex i, R', S'⟩
    | o => o)
  | .cd (.loop b) => self n (.lp b) R S
  | .lp b => (match self n (.cd b) R S with
    | some ⟨.go, R', S'⟩ => self n (.lp b) R' S'
    | o => o)
  | .cd (.scope b) => self n (.sc b b) R S
  | .sc c r => (match self n (.cd r) R S with
    | some ⟨.gt l, R', S'⟩ => (match findLabel c l with
      | some r' => self n (.sc c r') R' S'
      | none => some ⟨.gt l, R', S'⟩)
    | o => o)
  | .cd (.exit id) => some ⟨.ex id, R, S⟩
  | .cd (.goto l) => some ⟨.gt l, R, S⟩
  | .cd .ret => some ⟨.rt, R, S⟩
  | .cd (.region _ ops true) => (match G n ops R S with
    | some (R', S') => some ⟨.go, R', S'⟩
    | none => none)
  | .cd (.region _ ops false) => (match opsRun P K F n ops ops.toList R S with
    | some (R', S') => some ⟨.go, R', S'⟩
    | none => none)
  | _ => none
section
variable {P : Program} {K : Kt} {F : Doer} {G : Regs} {self : Self}
theorem Post.trans {w0 : World} {σ τ : Sg} {S T : St} {w w1 : World} {n : Nat} {o : Out} (h : Fr σ S w τ T w1) {e : Exit} {a : Act} {w' : World} (hp : Post P w0 τ T w1 n o e a w') : Post P w0 σ S w n o e a w' := by
  obtain ⟨h1, h2, υ, h3, h4, h5⟩ := hp
  exact ⟨h1, h2, υ, h3, h.trans h4, h5⟩
theorem stepC_ok (hI : IdlOk P K) (hF : DoerOk P K F) (hG : RegsOk P K G) (hS : SelfOk P K self) : SelfOk P K (stepC P K F G self) := by
  intro n t R S o h w0 σ a w h0 hE hO hT hd
  have here : ∀ r : Rs, o = ⟨r, R, S⟩ → Post P w0 σ S w n o r.exit a w := fun r hr => by
    subst hr
    exact ⟨rfl, hd, σ, hO, Fr.refl .., hT⟩
  unfold stepC at h
  split at h
  · exact wp_skip (here .go (Option.some.inj h).symm)
  · exact wp_label (here .go (Option.some.inj h).symm)
  · rename_i x y
    refine wp_seq ?_
    cases hx : self n (.cd x) R S with
    | none => rw [hx] at h; cases h
    | some o1 =>
      have h1 := hS n _ R S o1 hx w0 σ a w h0 hE hO hT hd
      obtain ⟨r, R1, S1⟩ := o1
      rw [hx] at h
      refine wp_mono h1 fun e a1 w1 hp => ?_
      obtain ⟨he, hd1, τ, k1, k2, k3⟩ := hp
      cases r with
      | go =>
        dsimp only at h
        subst he
        refine wp_mono (hS n _ R1 S1 o h w0 τ a1 w1 h0 (hE.mono k2.sub) k1 k3 hd1) fun e a w hp => Post.trans k2 hp
      | ex id => obtain rfl := Option.some.inj h; subst he; exact ⟨rfl, hd1, τ, k1, k2, k3⟩
      | gt id => obtain rfl := Option.some.inj h; subst he; exact ⟨rfl, hd1, τ, k1, k2, k3⟩
      | rt => obtain rfl := Option.some.inj h; subst he; exact ⟨rfl, hd1, τ, k1, k2, k3⟩
  · rename_i x p q
    split at h
    · rename_i hx
      exact wp_cond_true (hT.HA x _ hx) (hS n _ R S o h w0 σ a w h0 hE hO hT hd)
    · rename_i hx
      exact wp_cond_false (hT.HA x _ hx) (hS n _ R S o h w0 σ a w h0 hE hO hT hd)
    · cases h
  · rename_i id b
    refine wp_block ?_
    cases hx : self n (.cd b) R S with
    | none => rw [hx] at h; cases h
    | some o1 =>
      have h1 := hS n _ R S o1 hx w0 σ a w h0 hE hO hT hd
      obtain ⟨r, R1, S1⟩ := o1
      rw [hx] at h
      refine wp_mono h1 fun e a1 w1 hp => ?_
      obtain ⟨he, hd1, τ, k1, k2, k3⟩ := hp
      cases r with
      | go => obtain rfl := Option.some.inj h; subst he; exact ⟨rfl, hd1, τ, k1, k2, k3⟩
      | gt l => obtain rfl := Option.some.inj h; subst he; exact ⟨rfl, hd1, τ, k1, k2, k3⟩
      | rt => obtain rfl := Option.some.inj h; subst he; exact ⟨rfl, hd1, τ, k1, k2, k3⟩
      | ex i =>
        dsimp only at h
        subst he
        cases hb : Nat.beq i id with
        | true =>
          rw [hb, cond_true] at h
          obtain rfl := Option.some.inj h
          have hi := Nat.eq_of_beq_eq_true hb
          show (if i = id then _ else _)
          rw [if_pos hi]
          exact ⟨rfl, hd1, τ, k1, k2, k3⟩
        | false =>
          rw [hb, cond_false] at h
          obtain rfl := Option.some.inj h
          have hi := Nat.ne_of_beq_eq_false hb
          show (if i = id then _ else _)
          rw [if_neg hi]
          exact ⟨rfl, hd1, τ, k1, k2, k3⟩
  · rename_i b
    intro fr k cs
    obtain ⟨e, a', w', hq, harr⟩ := hS n _ R S o h w0 σ a w h0 hE hO hT hd fr k cs
    exact ⟨e, a', w', hq, .of_steps (.one step_loop) harr⟩
  · rename_i b
    intro fr k cs
    cases hx : self n (.cd b) R S with
    | none => rw [hx] at h; cases h
    | some o1 =>
      obtain ⟨e, a1, w1, hp, harr⟩ := hS n _ R S o1 hx w0 σ a w h0 hE hO hT hd fr (.inLoop b :: k) cs
      obtain ⟨r, R1, S1⟩ := o1
      rw [hx] at h
      obtain ⟨he, hd1, τ, k1, k2, k3⟩ := hp
      cases r with
      | go =>
        dsimp only at h
        obtain rfl : e = .normal := he
        obtain ⟨e2, a2, w2, hp2, harr2⟩ := hS n _ R1 S1 o h w0 τ a1 w1 h0 (hE.mono k2.sub) k1 k3 hd1 fr k cs
        exact ⟨e2, a2, w2, Post.trans k2 hp2, .of_steps (Steps.trans harr (.one step_inLoop)) harr2⟩
      | ex id =>
        obtain rfl := Option.some.inj h
        obtain rfl : e = .exit id := he
        exact ⟨_, a1, w1, ⟨rfl, hd1, τ, k1, k2, k3⟩, .pass (x := .inLoop b) rfl (fun _ _ => .inl (by simp [Rs.exit])) harr⟩
      | gt l =>
        obtain rfl := Option.some.inj h
        obtain rfl : e = .goto l := he
        exact ⟨_, a1, w1, ⟨rfl, hd1, τ, k1, k2, k3⟩, .pass (x := .inLoop b) rfl (fun _ _ => .inl (by simp [Rs.exit])) harr⟩
      | rt =>
        obtain rfl := Option.some.inj h
        obtain rfl : e = .ret := he
        exact ⟨_, a1, w1, ⟨rfl, hd1, τ, k1, k2, k3⟩, harr⟩
  · rename_i b
    intro fr k cs
    obtain ⟨e, a', w', hq, harr⟩ := hS n _ R S o h w0 σ a w h0 hE hO hT hd fr k cs
    exact ⟨e, a', w', hq, .of_steps (.one step_scope) harr⟩
  · rename_i c r
    intro fr k cs
    cases hx : self n (.cd r) R S with
    | none => rw [hx] at h; cases h
    | some o1 =>
      obtain ⟨e, a1, w1, hp, harr⟩ := hS n _ R S o1 hx w0 σ a w h0 hE hO hT hd fr (.inScope c :: k) cs
      obtain ⟨q, R1, S1⟩ := o1
      rw [hx] at h
      obtain ⟨he, hd1, τ, k1, k2, k3⟩ := hp
      cases q with
      | go =>
        obtain rfl := Option.some.inj h
        obtain rfl : e = .normal := he
        exact ⟨_, a1, w1, ⟨rfl, hd1, τ, k1, k2, k3⟩, Steps.trans harr (.one step_inScope)⟩
      | ex id =>
        obtain rfl := Option.some.inj h
        obtain rfl : e = .exit id := he
        exact ⟨_, a1, w1, ⟨rfl, hd1, τ, k1, k2, k3⟩, fun k' hk => harr k' (by simp [exitTo, hk])⟩
      | rt =>
        obtain rfl := Option.some.inj h
        obtain rfl : e = .ret := he
        exact ⟨_, a1, w1, ⟨rfl, hd1, τ, k1, k2, k3⟩, harr⟩
      | gt l =>
        dsimp only at h
        obtain rfl : e = .goto l := he
        cases hl : findLabel c l with
        | some r' =>
          rw [hl] at h
          dsimp only at h
          obtain ⟨e2, a2, w2, hp2, harr2⟩ := hS n _ R1 S1 o h w0 τ a1 w1 h0 (hE.mono k2.sub) k1 k3 hd1 fr k cs
          have hg : gotoIn l (.inScope c :: k) = some (.code r' :: .inScope c :: k) := by simp [gotoIn, hl]
          exact ⟨e2, a2, w2, Post.trans k2 hp2, .of_steps (harr _ hg) harr2⟩
        | none =>
          rw [hl] at h
          obtain rfl := Option.some.inj h
          exact ⟨_, a1, w1, ⟨rfl, hd1, τ, k1, k2, k3⟩, fun k' hk => harr k' (by simp [gotoIn, hl, hk])⟩
  · exact wp_exit (here (.ex _) (Option.some.inj h).symm)
  · exact wp_goto (here (.gt _) (Option.some.inj h).symm)
  · exact wp_ret (here .rt (Option.some.inj h).symm)
  · rename_i id ops
    cases hx : G n ops R S with
    | none => rw [hx] at h; cases h
    | some y =>
      obtain ⟨R1, S1⟩ := y
      rw [hx] at h
      obtain rfl := Option.some.inj h
      exact hG n ops R S R1 S1 hx w0 σ a w id _ h0 hE hO hT fun a' w' τ h1 h2 h3 h4 => ⟨rfl, h1 hd, τ, h3, h4, h2⟩
  · rename_i id ops
    cases hx : opsRun P K F n ops ops.toList R S with
    | none => rw [hx] at h; cases h
    | some y =>
      obtain ⟨R1, S1⟩ := y
      rw [hx] at h
      obtain rfl := Option.some.inj h
      refine wp_region ?_
      have := opsRun_ok (w0 := w0) (Q := Post P w0 σ S w n ⟨.go, R1, S1⟩) hI h0 hF ops.toList 0 R S σ a w (fun j => by simp) (by simp) hx hT hE hO fun a' w' τ h1 h2 h3 h4 => ⟨rfl, h1 hd, τ, h3, h4, h2⟩
      rw [List.range_eq_range']
      simpa using this
  · cases h
end
end Go.Proofs.YtffccgnhdpjlaaaGreatDoor.Ev
