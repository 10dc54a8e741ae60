/- Functions told by a law of their own, for the runner. -/
import Derived.Test.YtffccgnhdpjlaaaGreatDoorEvX
import Derived.Laws.Externs
import Derived.Lib.MakeNoZero
set_option linter.unusedVariables false
set_option linter.unusedSimpArgs false
namespace Go.Proofs.YtffccgnhdpjlaaaGreatDoor.Ev
open Go Go.RowKit
section
variable {P : Program} {K : Kt} {σ : Sg} {w0 w w' : World} {S : St}
/-- A function whose number is f, told by g. -/
noncomputable def onlyF (f : FuncId) (g : List AV → St → Option (AV × St)) : Doer := fun f' axs S => bif Nat.beq f' f then g axs S else none
theorem onlyF_ok {f : FuncId} {g : List AV → St → Option (AV × St)} (h : ∀ axs S x T, g axs S = some (x, T) → ∀ w0 σ w vs, GOk K w0 → EOk P K σ → Ok w0 σ S w → RV σ axs vs → Does P f vs.toArray w fun u w' => ∃ τ, x.R τ u ∧ Ok w0 τ T w' ∧ Fr σ S w τ T w') :
    DoerOk P K fun f' axs S => bif Nat.beq f' f then g axs S else none := by
  intro f' axs S x T hx0 w0 σ w vs hG hE hO hR
  have hx : (bif Nat.beq f' f then g axs S else none) = some (x, T) := hx0
  clear hx0
  cases hb : Nat.beq f' f with
  | false => rw [hb] at hx; cases hx
  | true =>
    rw [hb, cond_true] at hx
    have e := Nat.eq_of_beq_eq_true hb
    rw [e]
    exact h axs S x T hx w0 σ w vs hG hE hO hR
/-- What was made beside the named blocks. -/
theorem Ok.beside (h : Ok w0 σ S w) (hb : Below w.heap.size w w') : Ok w0 σ S w' ∧ Fr σ S w σ S w' := by
  have hs := h.below.size
  refine ⟨⟨⟨hb.os.trans h.below.os, hb.tape.trans h.below.tape, hb.output.trans h.below.output, Nat.le_trans hs hb.size, fun k hk => (hb.block k (by omega)).trans (h.below.block k hk)⟩, fun n o hn => ?_, h.inj, h.fresh⟩, Sub.refl σ, hb.size, fun k hk ho => ⟨hb.block k hk, ho⟩, Nat.le_refl _, fun _ _ h => h⟩
  obtain ⟨B, b1, b2, b3, b4⟩ := h.live n o hn
  exact ⟨B, b1, b2, Nat.lt_of_lt_of_le b3 hb.size, b4.same (hb.block _ b3)⟩
/-- A block that was made beside them, taken up. -/
theorem Ok.adopt (h : Ok w0 σ S w) (hb : Below w.heap.size w w') {H' : Tr AO} {o : AO} {g base tot : Nat} (hu : Tr.upd (some o) purse S.H S.nx = some H') (hg : w.heap.size ≤ g) (hg' : g < w'.heap.size) (ho : ∀ τ, o.R τ w' ⟨g, base, tot, nov⟩) :
    Ok w0 (σ.put S.nx ⟨g, base, tot, nov⟩) ⟨H', S.nx + 1⟩ w' ∧ Fr σ S w (σ.put S.nx ⟨g, base, tot, nov⟩) ⟨H', S.nx + 1⟩ w' := by
  obtain ⟨h1, h2⟩ := h.beside hb
  have hnm := h.nx_none
  have hsub := Sg.sub_put ⟨g, base, tot, nov⟩ hnm
  have hgt := Tr.get_upd _ _ _ _ _ hu
  have hs := h.below.size
  have live : ∀ n o', H'.get n = some o' → (n = S.nx ∧ o' = o) ∨ (n ≠ S.nx ∧ S.H.get n = some o') := fun n o' hl => by
    rw [hgt] at hl
    by_cases e : n = S.nx
    · rw [if_pos e] at hl; exact Or.inl ⟨e, (Option.some.inj hl).symm⟩
    · rw [if_neg e] at hl; exact Or.inr ⟨e, hl⟩
  have far : ∀ n o' B, S.H.get n = some o' → σ n = some B → B.b ≠ g := fun n o' B hl hB => by
    obtain ⟨C, c1, c2, c3, -⟩ := h.live n o' hl
    obtain rfl := Option.some.inj (hB.symm.trans c1)
    omega
  refine ⟨⟨h1.below, fun n o' hl => ?_, fun n m o1 o2 B1 B2 k1 k2 s1 s2 e => ?_, fun n B hB => ?_⟩, hsub, h2.size, fun k hk hoff => ⟨(h2.keep k hk hoff).1, fun n o' B hl hB => ?_⟩, Nat.le_succ _, fun n hn hs => by unfold Sg.put; rw [if_neg (by omega)]; exact hs⟩
  · rcases live n o' hl with ⟨rfl, rfl⟩ | ⟨hne, hl'⟩
    · exact ⟨_, Sg.put_same _ _ _, by show w0.heap.size ≤ g; omega, hg', ho _⟩
    · obtain ⟨B, b1, b2, b3, b4⟩ := h1.live n o' hl'
      exact ⟨B, hsub _ _ b1, b2, b3, b4.mono hsub⟩
  · rcases live n o1 k1 with ⟨rfl, rfl⟩ | ⟨hne, h1'⟩ <;> rcases live m o2 k2 with ⟨hm, rfl⟩ | ⟨hme, h2'⟩
    · exact hm.symm
    · obtain ⟨B, b1, -⟩ := h1.live m o2 h2'
      rw [Sg.put_same] at s1
      rw [hsub _ _ b1] at s2
      obtain rfl := Option.some.inj s1
      obtain rfl := Option.some.inj s2
      exact absurd e.symm (far m o2 _ h2' b1)
    · subst hm
      obtain ⟨B, b1, -⟩ := h1.live n o1 h1'
      rw [Sg.put_same] at s2
      rw [hsub _ _ b1] at s1
      obtain rfl := Option.some.inj s1
      obtain rfl := Option.some.inj s2
      exact absurd e (far n o1 _ h1' b1)
    · obtain ⟨C1, c1, -⟩ := h1.live n o1 h1'
      obtain ⟨C2, c2, -⟩ := h1.live m o2 h2'
      rw [hsub _ _ c1] at s1
      rw [hsub _ _ c2] at s2
      obtain rfl := Option.some.inj s1
      obtain rfl := Option.some.inj s2
      exact h1.inj n m o1 o2 _ _ h1' h2' c1 c2 e
  · unfold Sg.put at hB
    by_cases e : n = S.nx
    · show n < S.nx + 1; omega
    · rw [if_neg e] at hB
      have := h.fresh n B hB
      show n < S.nx + 1
      omega
  · rcases live n o' hl with ⟨rfl, rfl⟩ | ⟨hne, hl'⟩
    · rw [Sg.put_same] at hB
      obtain rfl := Option.some.inj hB
      show g ≠ k
      omega
    · obtain ⟨B', b1, -⟩ := h1.live n o' hl'
      rw [hsub _ _ b1] at hB
      obtain rfl := Option.some.inj hB
      exact hoff n o' _ hl' b1
/-! ### a block of which nothing is told -/
noncomputable def blindF (t : TypeId) (l : List AV) (S : St) : Option (AV × St) := match l with
  | [] => (match Tr.upd (some (.cells [] t false)) purse S.H S.nx with
    | some H => some (.e (.lf (.p (some (S.nx, 0)))), ⟨H, S.nx + 1⟩)
    | none => none)
  | _ => none
theorem blindF_ok {f : FuncId} {t : TypeId} (he : ∀ args w, (callFunc f args).run P w = .ok (.enter f args) w) (h : ∀ w, Calls P f #[] w fun e w' => ∃ g cs, e = .returned (.pointer (some ⟨g, 0, none⟩)) ∧ w.heap.size ≤ g ∧ w'.heap[g]? = some (.cells cs t (0, 0)) ∧ Below w.heap.size w w') :
    DoerOk P K fun f' axs S => bif Nat.beq f' f then blindF t axs S else none :=
  onlyF_ok fun axs S x T hx w0 σ w vs hG hE hO hR => by
    unfold blindF at hx
    split at hx
    · cases hu : Tr.upd (some (.cells [] t false)) purse S.H S.nx with
      | none => rw [hu] at hx; cases hx
      | some H =>
        rw [hu] at hx
        simp only [Option.some.injEq, Prod.mk.injEq] at hx
        obtain ⟨rfl, rfl⟩ := hx
        cases vs with
        | cons _ _ => exact hR.elim
        | nil =>
          refine Or.inr ⟨he _ _, (h w).mono fun e w' hq => ?_⟩
          obtain ⟨g, cs, rfl, k1, k2, k3⟩ := hq
          obtain ⟨r1, r2⟩ := hO.adopt (base := 0) (tot := cs.size) k3 hu k1 (Array.getElem?_eq_some_iff.1 k2).1 fun τ => ⟨cs, (0, 0), k2, rfl, fun i _ hi => by omega, by simp, (fun e => by cases e), fun i x hx => by simp at hx⟩
          exact ⟨_, rfl, _, ⟨_, ⟨_, Sg.put_same .., rfl⟩, rfl⟩, r1, r2⟩
    · cases hx
/-! ### the value itself -/
noncomputable def sameF (l : List AV) (S : St) : Option (AV × St) := match l with
  | [x] => some (x, S)
  | _ => none
theorem sameF_ok {f : FuncId} (hf : ∀ args w, (callFunc f args).run P w = ((Extern.AbiNoEscape.same args).run P w).andThen fun v w' => .ok (.value v) w') :
    DoerOk P K fun f' axs S => bif Nat.beq f' f then sameF axs S else none :=
  onlyF_ok fun axs S x T hx w0 σ w vs hG hE hO hR => by
    unfold sameF at hx
    split at hx
    · simp only [Option.some.injEq, Prod.mk.injEq] at hx
      obtain ⟨rfl, rfl⟩ := hx
      cases vs with
      | nil => exact hR.elim
      | cons v vs =>
        cases vs with
        | cons _ _ => exact hR.2.elim
        | nil => exact Or.inl ⟨v, w, by rw [hf]; rfl, σ, hR.1, hO, Fr.refl ..⟩
    · cases hx
/-! ### an entry of the model that asks nothing of memory -/
noncomputable def concVs : List AV → Option (List Value)
  | [] => some []
  | x :: l => (match concV x with
    | some v => (match concVs l with
      | some r => some (v :: r)
      | none => none)
    | none => none)
theorem concVs_eq : ∀ {l : List AV} {r vs : List Value}, concVs l = some r → RV σ l vs → vs = r
  | [], r, vs, h, hr => by
    obtain rfl := Option.some.inj h
    cases vs with
    | nil => rfl
    | cons _ _ => exact hr.elim
  | x :: l, r, vs, h, hr => by
    unfold concVs at h
    cases hx : concV x with
    | none => rw [hx] at h; cases h
    | some v =>
      rw [hx] at h
      dsimp only at h
      cases hl : concVs l with
      | none => rw [hl] at h; cases h
      | some q =>
        rw [hl] at h
        obtain rfl := Option.some.inj h
        cases vs with
        | nil => exact hr.elim
        | cons y ys => rw [concV_eq hx hr.1, concVs_eq hl hr.2]
noncomputable def pureF (P : Program) (e : Array Value → Sem Value) (l : List AV) (S : St) : Option (AV × St) := match concVs l with
  | some vs => (match pureRun P (e vs.toArray) with
    | some v => (match absV v with
      | some x => some (x, S)
      | none => none)
    | none => none)
  | none => none
theorem pureF_ok {f : FuncId} {e : Array Value → Sem Value} (hf : ∀ args w, (callFunc f args).run P w = ((e args).run P w).andThen fun v w' => .ok (.value v) w') :
    DoerOk P K fun f' axs S => bif Nat.beq f' f then pureF P e axs S else none :=
  onlyF_ok fun axs S x T hx w0 σ w vs hG hE hO hR => by
    unfold pureF at hx
    cases hc : concVs axs with
    | none => rw [hc] at hx; cases hx
    | some us =>
      rw [hc] at hx
      dsimp only at hx
      obtain rfl := concVs_eq hc hR
      cases hp : pureRun P (e vs.toArray) with
      | none => rw [hp] at hx; cases hx
      | some v =>
        rw [hp] at hx
        dsimp only at hx
        cases ha : absV v with
        | none => rw [ha] at hx; cases hx
        | some y =>
          rw [ha] at hx
          simp only [Option.some.injEq, Prod.mk.injEq] at hx
          obtain ⟨rfl, rfl⟩ := hx
          exact Or.inl ⟨v, w, by rw [hf, pureRun_ok w hp]; rfl, σ, absV_R ha, hO, Fr.refl ..⟩
/-! ### room for bytes -/
noncomputable def roomF (e : TypeId) (l : List AV) (S : St) : Option (AV × St) := match l with
  | [.e (.lf (.i .i64 (.ofNat n)))] => bif Nat.ble n 1000000 then (match Tr.upd (some (.cells [] e false)) purse S.H S.nx with
    | some H => some (.e (.lf (.sl (some (S.nx, 0)) n 1)), ⟨H, S.nx + 1⟩)
    | none => none) else none
  | _ => none
theorem roomF_ok {f : FuncId} {ps : Array TypeId} {t e : TypeId} (ht : P.underlying t = some (.slice e)) (hf : ∀ args w, (callFunc f args).run P w = ((Extern.BytealgMakeNoZero.makeNoZero ps #[t] args).run P w).andThen fun v w' => .ok (.value v) w') :
    DoerOk P K fun f' axs S => bif Nat.beq f' f then roomF e axs S else none :=
  onlyF_ok fun axs S x T hx w0 σ w vs hG hE hO hR => by
    unfold roomF at hx
    split at hx
    · rename_i n
      cases hb : Nat.ble n 1000000 with
      | false => rw [hb] at hx; cases hx
      | true =>
        rw [hb, cond_true] at hx
        have hn := Nat.le_of_ble_eq_true hb
        cases hu : Tr.upd (some (.cells [] e false)) purse S.H S.nx with
        | none => rw [hu] at hx; cases hx
        | some H =>
          rw [hu] at hx
          simp only [Option.some.injEq, Prod.mk.injEq] at hx
          obtain ⟨rfl, rfl⟩ := hx
          cases vs with
          | nil => exact hR.elim
          | cons v vs =>
            cases vs with
            | cons _ _ => exact hR.2.elim
            | nil =>
              obtain rfl : v = .int .i64 (n : Int) := hR.1
              obtain ⟨cs, h1, h2, -⟩ := Lib.run_makeNoZero (P := P) (w := w) ps t e ht n (by omega)
              have h0 := hO.nx_none
              have hW : (w.drew.drew.alloc (.cells cs e)).heap = w.heap.push (.cells cs e) := rfl
              obtain ⟨r1, r2⟩ := hO.new (base := 0) (tot := cs.size) h0 (Nat.le_refl _) (Nat.le_succ _) (Nat.lt_succ_self _) hu hW ⟨rfl, rfl, rfl⟩ (open_R (l := []) (vs := []) hW trivial ⟨cs.toList, rfl⟩)
              exact Or.inl ⟨_, _, by rw [hf, h1]; rfl, _, ⟨_, Sg.put_same .., Or.inl ⟨cs.size, rfl, by show 0 + 0 + cs.size * 1 = cs.size; omega, h2⟩⟩, r1, r2⟩
    · cases hx
/-! ### a call with these very arguments, told by a contract that leaves memory alone -/
noncomputable def eqVs : List AV → List AV → Bool
  | [], [] => true
  | x :: l, y :: m => eqV x y && eqVs l m
  | _, _ => false
theorem eqV_ok {x y : AV} (h : eqV x y = true) : x = y := by
  have := eqS_ok (r := .v x) (s := .v y) h
  simpa using this
theorem eqVs_ok : ∀ {l m : List AV}, eqVs l m = true → l = m
  | [], [], _ => rfl
  | x :: l, y :: m, h => by
    unfold eqVs at h
    simp only [Bool.and_eq_true] at h
    rw [eqV_ok h.1, eqVs_ok h.2]
  | [], _ :: _, h => by cases h
  | _ :: _, [], h => by cases h
noncomputable def toldF (pat : List AV) (res : AV) (l : List AV) (S : St) : Option (AV × St) := bif eqVs l pat then some (res, S) else none
theorem toldF_ok {f : FuncId} {pat : List AV} {res : AV} (he : ∀ args w, (callFunc f args).run P w = .ok (.enter f args) w) (h : ∀ σ vs w, EOk P K σ → RV σ pat vs → Calls P f vs.toArray w fun e w' => ∃ u, e = .returned u ∧ res.R σ u ∧ Below w.heap.size w w') :
    DoerOk P K fun f' axs S => bif Nat.beq f' f then toldF pat res axs S else none :=
  onlyF_ok fun axs S x T hx w0 σ w vs hG hE hO hR => by
    unfold toldF at hx
    cases hb : eqVs axs pat with
    | false => rw [hb] at hx; cases hx
    | true =>
      rw [hb, cond_true] at hx
      simp only [Option.some.injEq, Prod.mk.injEq] at hx
      obtain ⟨rfl, rfl⟩ := hx
      obtain rfl := eqVs_ok hb
      refine Or.inr ⟨he _ _, (h σ vs w hE hR).mono fun e w' hq => ?_⟩
      obtain ⟨u, rfl, h1, h2⟩ := hq
      obtain ⟨r1, r2⟩ := hO.beside h2
      exact ⟨u, rfl, σ, h1, r1, r2⟩
/-- Any call of the runner's. -/
theorem run_calls (hm : P.follows .mixedOrders = true) (hI : IdlOk P K) {A : FuncId → Option (List AV → St → Option (AV × St))} {FT : FuncId → Option Func} (hA : ∀ f g, A f = some g → DoerOk P K fun f' axs S => bif Nat.beq f' f then g axs S else none) (hFT : ∀ f fn, FT f = some fn → P.funcs[f]? = some fn ∧ (fn.name == "runtime.NumGoroutine") = false)
    {fuel f : Nat} {axs : List AV} {S : St} {x : AV} {T : St} (h : callBy P FT (runBy P K A FT fuel) f axs S = some (x, T)) {vs : List Value} (h0 : GOk K w0) (hE : EOk P K σ) (hO : Ok w0 σ S w) (hR : RV σ axs vs) :
    Calls P f vs.toArray w fun e w' => ∃ u, e = .returned u ∧ ∃ τ, x.R τ u ∧ Ok w0 τ T w' ∧ Fr σ S w τ T w' :=
  (callBy_calls hFT (runBy_ok hm hI hA hFT fuel) f axs S x T h w0 σ w vs h0 hE hO hR).2
/-- Any stretch of code. -/
theorem run_code (hm : P.follows .mixedOrders = true) (hI : IdlOk P K) {A : FuncId → Option (List AV → St → Option (AV × St))} {FT : FuncId → Option Func} (hA : ∀ f g, A f = some g → DoerOk P K fun f' axs S => bif Nat.beq f' f then g axs S else none) (hFT : ∀ f fn, FT f = some fn → P.funcs[f]? = some fn ∧ (fn.name == "runtime.NumGoroutine") = false)
    {fuel n : Nat} {c : Code} {R : Tr AV} {o : Out} (h : runBy P K A FT fuel n (.cd c) R S = some o) {a : Act} (h0 : GOk K w0) (hE : EOk P K σ) (hO : Ok w0 σ S w) (hT : TR σ n R a) (hd : DfOk P a.defers) :
    c.wp P (Post P w0 σ S w n o) a w := runBy_ok hm hI hA hFT fuel n (.cd c) R S o h w0 σ a w h0 hE hO hT hd
end
end Go.Proofs.YtffccgnhdpjlaaaGreatDoor.Ev
