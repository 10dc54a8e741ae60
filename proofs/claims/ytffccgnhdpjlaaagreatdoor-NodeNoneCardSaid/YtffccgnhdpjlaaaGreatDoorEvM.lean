/- Operations, and calls, by the runner. -/
import Derived.Test.YtffccgnhdpjlaaaGreatDoorEvZ
import Derived.Scope
set_option linter.unusedVariables false
set_option linter.unusedSimpArgs false
namespace Go.Proofs.YtffccgnhdpjlaaaGreatDoor.Ev
open Go Go.RowKit
/-! ### values written out before they are kept -/
noncomputable def fN {α : Type} (n : Nat) (k : Nat → α) : α := Nat.rec (k 0) (fun m _ => k (m + 1)) n
noncomputable def fI {α : Type} (n : Int) (k : Int → α) : α := match n with
  | .ofNat a => fN a fun a => k (.ofNat a)
  | .negSucc a => fN a fun a => k (.negSucc a)
noncomputable def fNs {α : Type} : List Nat → (List Nat → α) → α
  | [], k => k []
  | x :: l, k => fN x fun x => fNs l fun l => k (x :: l)
noncomputable def fB {α : Type} (b : Bool) (k : Bool → α) : α := match b with
  | true => k true
  | false => k false
noncomputable def fLf {α : Type} (x : Lf) (k : Lf → α) : α := match x with
  | .b x => fB x fun x => k (.b x)
  | .i t n => fI n fun n => k (.i t n)
  | .s l => fNs l fun l => k (.s l)
  | .p none => k (.p none)
  | .p (some (a, b)) => fN a fun a => fN b fun b => k (.p (some (a, b)))
  | .sl none a b => fN a fun a => fN b fun b => k (.sl none a b)
  | .sl (some (m, o)) a b => fN m fun m => fN o fun o => fN a fun a => fN b fun b => k (.sl (some (m, o)) a b)
  | .m none => k (.m none)
  | .m (some n) => fN n fun n => k (.m (some n))
  | .fn f c => fN f fun f => k (.fn f c)
  | .raw v => k (.raw v)
  | .sy n => fN n fun n => k (.sy n)
  | .pos j => k (.pos j)
noncomputable def fLs {α : Type} : List Lf → (List Lf → α) → α
  | [], k => k []
  | x :: l, k => fLf x fun x => fLs l fun l => k (x :: l)
noncomputable def fAE {α : Type} (x : AE) (k : AE → α) : α := match x with
  | .lf x => fLf x fun x => k (.lf x)
  | .ag l => fLs l fun l => k (.ag l)
noncomputable def fEs {α : Type} : List AE → (List AE → α) → α
  | [], k => k []
  | x :: l, k => fAE x fun x => fEs l fun l => k (x :: l)
noncomputable def fAV {α : Type} (x : AV) (k : AV → α) : α := match x with
  | .e x => fAE x fun x => k (.e x)
  | .tu l => fEs l fun l => k (.tu l)
noncomputable def fMs {α : Type} : List (AE × AE) → (List (AE × AE) → α) → α
  | [], k => k []
  | (a, b) :: l, k => fAE a fun a => fAE b fun b => fMs l fun l => k ((a, b) :: l)
noncomputable def fAO {α : Type} (x : AO) (k : AO → α) : α := match x with
  | .cells l t ex => fLs l fun l => k (.cells l t ex)
  | .mp es => fMs es fun es => k (.mp es)
  | .si l pos => fN pos fun pos => k (.si l pos)
theorem fN_eq {α : Type} (n : Nat) (k : Nat → α) : fN n k = k n := by cases n <;> rfl
theorem fI_eq {α : Type} (n : Int) (k : Int → α) : fI n k = k n := by
  cases n
  · simp only [fI, fN_eq]
  · simp only [fI, fN_eq]
theorem fNs_eq {α : Type} : ∀ (l : List Nat) (k : List Nat → α), fNs l k = k l
  | [], k => rfl
  | x :: l, k => by
    simp only [fNs, fN_eq, fNs_eq]
theorem fB_eq {α : Type} (b : Bool) (k : Bool → α) : fB b k = k b := by cases b <;> rfl
theorem fLf_eq {α : Type} (x : Lf) (k : Lf → α) : fLf x k = k x := by
  unfold fLf
  split <;> simp only [fB_eq, fI_eq, fNs_eq, fN_eq]
theorem fLs_eq {α : Type} : ∀ (l : List Lf) (k : List Lf → α), fLs l k = k l
  | [], k => rfl
  | x :: l, k => by
    simp only [fLs, fLf_eq, fLs_eq]
theorem fAE_eq {α : Type} (x : AE) (k : AE → α) : fAE x k = k x := by
  cases x
  · simp only [fAE, fLf_eq]
  · simp only [fAE, fLs_eq]
theorem fEs_eq {α : Type} : ∀ (l : List AE) (k : List AE → α), fEs l k = k l
  | [], k => rfl
  | x :: l, k => by
    simp only [fEs, fAE_eq, fEs_eq]
theorem fAV_eq {α : Type} (x : AV) (k : AV → α) : fAV x k = k x := by
  cases x
  · simp only [fAV, fAE_eq]
  · simp only [fAV, fEs_eq]
theorem fMs_eq {α : Type} : ∀ (l : List (AE × AE)) (k : List (AE × AE) → α), fMs l k = k l
  | [], k => rfl
  | (a, b) :: l, k => by
    simp only [fMs, fAE_eq, fMs_eq]
theorem fAO_eq {α : Type} (x : AO) (k : AO → α) : fAO x k = k x := by
  cases x
  · simp only [fAO, fLs_eq]
  · simp only [fAO, fMs_eq]
  · simp only [fAO, fN_eq]
/-! ### what stays outside: variables that are only read, and functions put off that do nothing -/
structure Kt where
  gv : Nat → Option (TypeId × List Lf)
  idl : Nat → Bool
  orc : BinOp → AE → AE → Option AE
  sy : Nat → Option Value
  ln : TypeId → AE → Option AE
/-- What is told of values that stay names. -/
structure EOk1 (P : Program) (K : Kt) (σ : Sg) : Prop where
  sy : ∀ n v, K.sy n = some v → ∃ B, σ n = some B ∧ B.v = v
  orc : ∀ op x y r, K.orc op x y = some r → ∀ u v, x.R σ u → y.R σ v → ∀ t xo yo w, ∃ z, (do eqGuard op t xo yo u v; binOp op t u v : Sem Value).run P w = .ok z w ∧ r.R σ z
  ln : ∀ t x r, K.ln t x = some r → ∀ u, x.R σ u → ∀ ty w, ∃ z, (Builtin.len_ #[t] ty #[u]).run P w = .ok z w ∧ r.R σ z
def EOk (P : Program) (K : Kt) (σ : Sg) : Prop := ∀ τ, Sub σ τ → EOk1 P K τ
theorem EOk.mono {P : Program} {K : Kt} {σ τ : Sg} (h : EOk P K σ) (hs : Sub σ τ) : EOk P K τ := fun υ hu => h υ (hs.trans hu)
noncomputable def GOk (K : Kt) (w : World) : Prop := ∀ g t l, K.gv g = some (t, l) → g < w.heap.size ∧ ∃ cs tt fz, w.heap[g]? = some (.cells cs tt fz) ∧ ∀ σ, RL σ l cs.toList
theorem GOk.at {K : Kt} {w0 w : World} (h : GOk K w0) (hb : Below w0.heap.size w0 w) : GOk K w := fun g t l hg => by
  obtain ⟨h1, cs, tt, fz, h2, h3⟩ := h g t l hg
  exact ⟨Nat.lt_of_lt_of_le h1 hb.size, cs, tt, fz, (hb.block g h1).trans h2, h3⟩
/-- A call that is put off, and does nothing when its time comes. -/
noncomputable def Idle (P : Program) (d : Deferred) : Prop := ∃ fv cap f args, d.target = .fn fv cap ∧ (∀ w, (invoke d.target d.args).run P w = .ok (.enter f args) w) ∧ ∀ w, CallsD P f args .returning w fun e u' w' => (∃ v, e = .returned v) ∧ u' = .returning ∧ w' = w
noncomputable def DfOk (P : Program) (l : List Deferred) : Prop := ∀ d ∈ l, Idle P d
theorem DfOk.nil {P : Program} : DfOk P [] := fun d h => by cases h
noncomputable def IdlOk (P : Program) (K : Kt) : Prop := ∀ g, K.idl g = true → ∀ (p q : Addr), (∀ args w, (callFunc g args).run P w = .ok (.enter g args) w) ∧ ∀ w, CallsD P g #[.pointer (some p), .pointer (some q)] .returning w fun e u' w' => (∃ v, e = .returned v) ∧ u' = .returning ∧ w' = w
/-! ### the frame -/
noncomputable def rho (R : Tr AV) : Operand → Option AV
  | .tmp t => R.get t
  | .const v => absV v
  | .global g => some (.e (.lf (.raw (.pointer (some ⟨g, 0, none⟩)))))
  | .func f => some (.e (.lf (.fn f [])))
noncomputable def TR (σ : Sg) (n : Nat) (R : Tr AV) (a : Act) : Prop := a.tmps.size = n ∧ ∀ t x, R.get t = some x → x.R σ (a.tmps.getD t undef)
theorem TR.HA {σ : Sg} {n : Nat} {R : Tr AV} {a : Act} (h : TR σ n R a) : HA σ (rho R) a.eval := fun x y hx => by
  cases x with
  | tmp t => exact h.2 t y hx
  | const v => exact absV_R hx
  | global g =>
    obtain rfl := Option.some.inj hx
    exact ⟨rfl, rfl⟩
  | func f =>
    obtain rfl := Option.some.inj hx
    exact ⟨[], trivial, rfl⟩
theorem TR.mono {σ τ : Sg} (hs : Sub σ τ) {n : Nat} {R : Tr AV} {a : Act} (h : TR σ n R a) : TR τ n R a := ⟨h.1, fun t x hx => (h.2 t x hx).mono hs⟩
noncomputable def setT (n : Nat) (R : Tr AV) (d : Option Tmp) (x : AV) : Option (Tr AV) := match d with
  | none => some R
  | some d => bif Nat.blt d n then fAV x fun x => Tr.upd (some x) purse R d else none
theorem TR.set {σ : Sg} {n : Nat} {R R' : Tr AV} {a : Act} {d : Option Tmp} {x : AV} {u : Value} (h : TR σ n R a) (hs : setT n R d x = some R') (hx : x.R σ u) : TR σ n R' (a.put d u) := by
  cases d with
  | none =>
    obtain rfl := Option.some.inj hs
    exact h
  | some d =>
    unfold setT at hs
    dsimp only at hs
    cases hd : Nat.blt d n with
    | false => rw [hd] at hs; cases hs
    | true =>
      rw [hd, cond_true, fAV_eq] at hs
      have hdn : d < n := Nat.le_of_ble_eq_true hd
      have hg := Tr.get_upd _ _ _ _ _ hs
      refine ⟨by simp [Act.put, h.1], fun t y ht => ?_⟩
      rw [hg] at ht
      show y.R σ ((a.tmps.setIfInBounds d u).getD t undef)
      by_cases e : t = d
      · rw [if_pos e] at ht
        obtain rfl := Option.some.inj ht
        subst e
        have : t < a.tmps.size := by rw [h.1]; exact hdn
        simpa [Array.getD_eq_getD_getElem?, this] using hx
      · rw [if_neg e] at ht
        have := h.2 t y ht
        simpa [Array.getD_eq_getD_getElem?, Array.getElem?_setIfInBounds, Ne.symm e] using this
theorem put_defers (a : Act) (d : Option Tmp) (u : Value) : (a.put d u).defers = a.defers := by cases d <;> rfl
noncomputable def avs (ρ : Operand → Option AV) : List Operand → Option (List AV)
  | [] => some []
  | x :: l => match ρ x with
    | some a => match avs ρ l with
      | some r => some (a :: r)
      | none => none
    | none => none
theorem avs_ok {σ : Sg} {ρ : Operand → Option AV} {ev : Operand → Value} (hA : HA σ ρ ev) : ∀ {l : List Operand} {r : List AV}, avs ρ l = some r → RV σ r (l.map ev)
  | [], r, h => by
    obtain rfl := Option.some.inj h
    trivial
  | x :: l, r, h => by
    unfold avs at h
    cases hx : ρ x with
    | none => rw [hx] at h; cases h
    | some a =>
      rw [hx] at h
      dsimp only at h
      cases hl : avs ρ l with
      | none => rw [hl] at h; cases h
      | some q =>
        rw [hl] at h
        obtain rfl := Option.some.inj h
        exact ⟨hA x a hx, avs_ok hA hl⟩
noncomputable def ptrs : List (Nat × Nat) → List AV
  | [] => []
  | a :: l => .e (.lf (.p (some a))) :: ptrs l
theorem ptrs_ok {σ : Sg} : ∀ {l : List (Nat × Nat)} {vs : List Value}, CR σ l vs → RV σ (ptrs l) vs
  | [], [], _ => trivial
  | a :: l, v :: vs, h => ⟨h.1, ptrs_ok h.2⟩
  | [], _ :: _, h => h.elim
  | _ :: _, [], h => h.elim
theorem RV_append {σ : Sg} : ∀ {l m : List AV} {vs us : List Value}, RV σ l vs → RV σ m us → RV σ (l ++ m) (vs ++ us)
  | [], _, [], _, _, h => h
  | _ :: _, _, _ :: _, _, h, k => ⟨h.1, RV_append h.2 k⟩
  | [], _, _ :: _, _, h, _ => h.elim
  | _ :: _, _, [], _, h, _ => h.elim
/-! ### calls -/
/-- What a call comes to, of a function with a body or without. -/
noncomputable def Does (P : Program) (f : FuncId) (args : Array Value) (w : World) (R : Value → World → Prop) : Prop :=
  (∃ u w', (callFunc f args).run P w = .ok (.value u) w' ∧ R u w') ∨ ((callFunc f args).run P w = .ok (.enter f args) w ∧ Calls P f args w fun e w' => ∃ u, e = .returned u ∧ R u w')
abbrev Doer := FuncId → List AV → St → Option (AV × St)
noncomputable def DoerOk (P : Program) (K : Kt) (F : Doer) : Prop := ∀ f axs S x T, F f axs S = some (x, T) → ∀ w0 σ w vs, GOk K w0 → EOk P K σ → Ok w0 σ S w → RV σ axs vs → Does P f vs.toArray w fun u w' => ∃ τ, x.R τ u ∧ Ok w0 τ T w' ∧ Fr σ S w τ T w'
/-- An operation that writes, or calls. -/
noncomputable def evHard (P : Program) (F : Doer) (ρ : Operand → Option AV) (S : St) (o : Oper) : Option (AV × St) := match o.op with
  | .store t a x => (match evStore P S t (ρ a) (ρ x) with
    | some T => some (.tu [], T)
    | none => none)
  | .insert t m k x => (match evUpd P S t (ρ m) (ρ k) (ρ x) with
    | some T => some (.tu [], T)
    | none => none)
  | .mapUpdate t m k x => (match evUpd P S t (ρ m) (ρ k) (ρ x) with
    | some T => some (.tu [], T)
    | none => none)
  | .next x true => evNextS S (ρ x)
  | .call c => (match c.callee with
    | .value f => (match ρ f with
      | some (.e (.lf (.fn g cap))) => (match avs ρ c.args.toList with
        | some axs => F g (axs ++ ptrs cap) S
        | none => none)
      | _ => none)
    | .builtin .append => (match c.args.toList, c.argTypes.toList with
      | [a, b], [t, t'] => bif Nat.beq t t' then evAppend P S t (ρ a) (ρ b) else (match evAppend0 P S t t' (ρ a) (ρ b) with
        | some r => some r
        | none => evAppendS P S t t' (ρ a) (ρ b))
      | _, _ => none)
    | .builtin .copy => (match c.args.toList, c.argTypes.toList with
      | [a, b], [t, _] => evCopy0 P S t (ρ a) (ρ b)
      | _, _ => none)
    | .builtin .unsafeString => (match c.args.toList, c.argTypes.toList with
      | [a, b], [t, _] => evString P S t (ρ a) (ρ b)
      | _, _ => none)
    | .builtin .delete => (match c.args.toList, c.argTypes.toList with
      | [a, b], [t, _] => (match evDelete P S t (ρ a) (ρ b) with
        | some T => some (.tu [], T)
        | none => none)
      | _, _ => none)
    | _ => none)
  | _ => none
section
variable {P : Program} {K : Kt} {σ : Sg} {w0 w : World} {S T : St} {F : Doer}
theorem evHard_ok (hF : DoerOk P K F) (hG : GOk K w0) (hE : EOk P K σ) {ρ : Operand → Option AV} {a : Act} (hA : HA σ ρ a.eval) (h : Ok w0 σ S w) {o : Oper} {x : AV} (he : evHard P F ρ S o = some (x, T)) {next : Act → World → Prop} {Q : Exit → Act → World → Prop}
    (hn : ∀ u w' τ, x.R τ u → Ok w0 τ T w' → Fr σ S w τ T w' → next (a.put o.dst u) w') : o.wp P a w next Q := by
  have void : ∀ {w' : World} {τ : Sg}, (execOp a.eval o).run P w = .ok .skip w' → x = .tu [] → Ok w0 τ T w' → Fr σ S w τ T w' → o.wp P a w next Q := fun hr hx h1 h2 => by
    unfold Oper.wp
    rw [hr, Oper.upon_skip]
    exact hn _ _ _ (by rw [hx]; exact ⟨[], trivial, rfl⟩) h1 h2
  have val : ∀ {u : Value} {w' : World} {τ : Sg}, (execOp a.eval o).run P w = .ok (.value u) w' → x.R τ u → Ok w0 τ T w' → Fr σ S w τ T w' → o.wp P a w next Q := fun hr hx h1 h2 => by
    unfold Oper.wp
    rw [hr, Oper.upon_value]
    exact hn _ _ _ hx h1 h2
  obtain ⟨dst, op, ty, pos, after, guard⟩ := o
  unfold evHard at he
  cases op with
  | store t ad y =>
    dsimp only at he
    cases hs : evStore P S t (ρ ad) (ρ y) with
    | none => rw [hs] at he; cases he
    | some T' =>
      rw [hs] at he
      simp only [Option.some.injEq, Prod.mk.injEq] at he
      obtain ⟨rfl, rfl⟩ := he
      obtain ⟨w', h1, h2, h3⟩ := evStore_ok h (fun a ha => hA ad a ha) (fun a ha => hA y a ha) hs
      exact void (by simp [execOp, h1]) rfl h2 h3
  | insert t m k y =>
    dsimp only at he
    cases hs : evUpd P S t (ρ m) (ρ k) (ρ y) with
    | none => rw [hs] at he; cases he
    | some T' =>
      rw [hs] at he
      simp only [Option.some.injEq, Prod.mk.injEq] at he
      obtain ⟨rfl, rfl⟩ := he
      obtain ⟨w', h1, h2, h3⟩ := evUpd_ok h (fun a ha => hA m a ha) (fun a ha => hA k a ha) (fun a ha => hA y a ha) hs
      exact void (by simp [execOp, h1]) rfl h2 h3
  | mapUpdate t m k y =>
    dsimp only at he
    cases hs : evUpd P S t (ρ m) (ρ k) (ρ y) with
    | none => rw [hs] at he; cases he
    | some T' =>
      rw [hs] at he
      simp only [Option.some.injEq, Prod.mk.injEq] at he
      obtain ⟨rfl, rfl⟩ := he
      obtain ⟨w', h1, h2, h3⟩ := evUpd_ok h (fun a ha => hA m a ha) (fun a ha => hA k a ha) (fun a ha => hA y a ha) hs
      exact void (by simp [execOp, h1]) rfl h2 h3
  | next it isS =>
    cases isS with
    | false => cases he
    | true =>
      obtain ⟨r, w', h1, h2, h3, h4⟩ := evNextS_ok (P := P) (ty := ty) h (fun a ha => hA it a ha) he
      exact val (by simp [execOp, h1]) h2 h3 h4
  | call c =>
    obtain ⟨callee, args, ats⟩ := c
    dsimp only at he
    split at he
    · rename_i f
      split at he
      · rename_i g cap hf
        cases has : avs ρ args.toList with
        | none => rw [has] at he; cases he
        | some axs =>
          rw [has] at he
          dsimp only at he
          obtain ⟨vs, hc, hv⟩ : (AV.e (.lf (.fn g cap))).R σ (a.eval f) := hA f _ hf
          have hRV := RV_append (avs_ok hA has) (ptrs_ok hc)
          have hd := hF g _ S x T he w0 σ w _ hG hE h hRV
          have hargs : (args.toList.map a.eval ++ vs).toArray = args.map a.eval ++ vs.toArray := by
            apply Array.ext'
            simp
          rw [hargs] at hd
          have hrun : (execOp a.eval { dst, op := .call ⟨.value f, args, ats⟩, type := ty, pos, after, guard }).run P w = (callFunc g (args.map a.eval ++ vs.toArray)).run P w := by
            simp [execOp, resolve, hv, Deferred.ofValue, invoke]
          rcases hd with ⟨u, w', h1, τ, h2, h3, h4⟩ | ⟨h1, h2⟩
          · exact val (hrun.trans h1) h2 h3 h4
          · unfold Oper.wp
            rw [hrun, h1, Oper.upon_enter]
            refine Calls.mono h2 fun e w' he => ?_
            obtain ⟨u, rfl, τ, k1, k2, k3⟩ := he
            exact hn _ _ _ k1 k2 k3
      · cases he
    · split at he
      · rename_i p q t t' ha ht
        have e1 : args = #[p, q] := by apply Array.ext'; simpa using ha
        have e2 : ats = #[t, t'] := by apply Array.ext'; simpa using ht
        subst e1
        subst e2
        cases hb : Nat.beq t t' with
        | false =>
          rw [hb, cond_false] at he
          cases h00 : evAppend0 P S t t' (ρ p) (ρ q) with
          | some y =>
            rw [h00] at he
            obtain rfl := Option.some.inj he
            obtain ⟨r, w', τ, h1, h2, h3, h4⟩ := evAppend0_ok (ty := ty) h (fun a ha => hA p a ha) (fun a ha => hA q a ha) h00
            exact val (by simp [execOp, resolve, invoke, builtin, h1]) h2 h3 h4
          | none =>
            rw [h00] at he
            obtain ⟨r, w', τ, h1, h2, h3, h4⟩ := evAppendS_ok (ty := ty) h (fun a ha => hA p a ha) (fun a ha => hA q a ha) he
            exact val (by simp [execOp, resolve, invoke, builtin, h1]) h2 h3 h4
        | true =>
          rw [hb, cond_true] at he
          obtain rfl := Nat.eq_of_beq_eq_true hb
          obtain ⟨r, w', τ, h1, h2, h3, h4⟩ := evAppend_ok (ty := ty) h (fun a ha => hA p a ha) (fun a ha => hA q a ha) he
          exact val (by simp [execOp, resolve, invoke, builtin, h1]) h2 h3 h4
      · cases he
    · split at he
      · rename_i p q t t' ha ht
        have e1 : args = #[p, q] := by apply Array.ext'; simpa using ha
        have e2 : ats = #[t, t'] := by apply Array.ext'; simpa using ht
        subst e1
        subst e2
        obtain ⟨h1, h2, rfl⟩ := evCopy0_ok (it := t') (ty := ty) (w := w) (σ := σ) (fun a ha => hA p a ha) (fun a ha => hA q a ha) he
        obtain ⟨u, h1, h2⟩ := h1
        exact val (by simp [execOp, resolve, invoke, builtin, h1]) h2 h (Fr.refl ..)
      · cases he
    · split at he
      · rename_i p q t t' ha ht
        have e1 : args = #[p, q] := by apply Array.ext'; simpa using ha
        have e2 : ats = #[t, t'] := by apply Array.ext'; simpa using ht
        subst e1
        subst e2
        obtain ⟨r, w', τ, h1, h2, h3, h4⟩ := evString_ok (it := t') (ty := ty) h (fun a ha => hA p a ha) (fun a ha => hA q a ha) he
        exact val (by simp [execOp, resolve, invoke, builtin, h1]) h2 h3 h4
      · cases he
    · split at he
      · rename_i p q t t' ha ht
        have e1 : args = #[p, q] := by apply Array.ext'; simpa using ha
        have e2 : ats = #[t, t'] := by apply Array.ext'; simpa using ht
        subst e1
        subst e2
        cases hs : evDelete P S t (ρ p) (ρ q) with
        | none => rw [hs] at he; cases he
        | some T' =>
          rw [hs] at he
          simp only [Option.some.injEq, Prod.mk.injEq] at he
          obtain ⟨rfl, rfl⟩ := he
          obtain ⟨w', h1, h2, h3⟩ := evDelete_ok (t2 := t') (ty := ty) h (fun a ha => hA p a ha) (fun a ha => hA q a ha) hs
          exact val (by simp [execOp, resolve, invoke, builtin, h1]) ⟨[], trivial, rfl⟩ h2 h3
      · cases he
    · cases he
  | _ => cases he
/-- A variable that is only read: a cell of it. -/
noncomputable def evLoadG (P : Program) (K : Kt) (t : TypeId) (a : Option AV) : Option Sf := match a with
  | some (.e (.lf (.raw (.pointer (some ⟨g, off, none⟩))))) => (match isag P t, K.gv g with
    | some false, some (_, l) => (match l[off]? with
      | some x => some (.v (.e (.lf x)))
      | none => none)
    | _, _ => none)
  | _ => none
theorem evLoadG_ok {t : TypeId} {a : Option AV} {v : Value} {nm : Nat} {r : Sf} (hG : GOk K w) (ha : ∀ y, a = some y → y.R σ v) (h : evLoadG P K t a = some r) : SfOk σ nm w ((Instr.loadAt t v).run P w) r := by
  unfold evLoadG at h
  split at h
  · rename_i g off
    obtain ⟨rfl, -⟩ : v = _ ∧ _ := ha _ rfl
    split at h
    · rename_i tt l hi hg
      obtain ⟨-, cs, t2, fz, h2, h3⟩ := hG g tt l hg
      split at h
      · rename_i x hx
        obtain rfl := Option.some.inj h
        obtain ⟨u, k1, k2⟩ := RL_get (h3 σ) off x hx
        refine ⟨u, ?_, k2⟩
        have hc : w.cell? ⟨g, off, none⟩ = some u := by
          simp only [World.cell?, h2]
          simpa using k1
        have := isag_run (w := w) hi
        simp [Instr.loadAt, Instr.sureAddr, loadVar, this, load, hc, Sem.run]
      · cases h
    · cases h
  · cases h
/-- The length of what is named. -/
noncomputable def evLenN (K : Kt) (ts : List TypeId) (x : Option AV) : Option Sf := match ts, x with
  | [t], some (.e a) => (match K.ln t a with
    | some r => some (.v (.e r))
    | none => none)
  | _, _ => none
theorem evLenN_ok {ats : Array TypeId} {ty : TypeId} {x : Option AV} {v : Value} {nm : Nat} {r : Sf} (hE : EOk P K σ) (hx : ∀ a, x = some a → a.R σ v) (h : evLenN K ats.toList x = some r) : ∃ t, ats = #[t] ∧ SfOk σ nm w ((Builtin.len_ #[t] ty #[v]).run P w) r := by
  unfold evLenN at h
  split at h
  · rename_i t a ha
    cases hl : K.ln t a with
    | none => rw [hl] at h; cases h
    | some q =>
      rw [hl] at h
      obtain rfl := Option.some.inj h
      obtain ⟨z, h1, h2⟩ := (hE σ (Sub.refl σ)).ln t a q hl v (hx _ rfl) ty w
      exact ⟨t, by apply Array.ext'; simpa using ha, z, h1, h2⟩
  · cases h
/-- What an operation comes to that the runner knows beyond the simple ones. -/
noncomputable def evMore (P : Program) (K : Kt) (H : Tr AO) (ρ : Operand → Option AV) (o : Oper) : Option Sf := match o.op with
  | .load t a => evLoadG P K t (ρ a)
  | .fieldAddr _ _ _ => fall P ρ o
  | .indexAddr _ _ _ => fall P ρ o
  | .nilCheck _ => fall P ρ o
  | .lookup t m k ok => (match evLookup P H t (ρ m) (ρ k) ok with
    | some r => some r
    | none => evLookupA P H t (ρ m) (ρ k) ok)
  | .range t x => evRangeS P t (ρ x)
  | .slice t x lo hi none => evSlicePA P H t (ρ x) (lo.map ρ) (hi.map ρ)
  | .buildSlice t n ps => evNoRow P t n ps.toList
  | .convert s d x => evUns P H s d (ρ x)
  | .binOp op t x y _ => (match ρ x, ρ y with
    | some (.e a), some (.e b) => (match K.orc op a b with
      | some r => some (.v (.e r))
      | none => (match evPos op (ρ x) (ρ y) with
        | some r => some r
        | none => evSameP P op t (ρ x) (ρ y)))
    | _, _ => none)
  | .call c => (match c.callee, c.args.toList with
    | .builtin .unsafeSliceData, [x] => evData (ρ x)
    | .builtin .cap, [x] => evCap0 P (c.argTypes.toList) (ρ x)
    | .builtin .len, [x] => evLenN K (c.argTypes.toList) (ρ x)
    | .builtin .complex, _ => fall P ρ o
    | .builtin .real, _ => fall P ρ o
    | .builtin .imag, _ => fall P ρ o
    | _, _ => none)
  | _ => none
theorem evMore_ok {ρ : Operand → Option AV} {ev : Operand → Value} {H : Tr AO} {nm : Nat} (hG : GOk K w) (hE : EOk P K σ) (hL : LiveAt σ H w) (hA : HA σ ρ ev) {o : Oper} {r : Sf} (h : evMore P K H ρ o = some r) : SfN σ nm w ((execOp ev o).run P w) r := by
  obtain ⟨dst, op, ty, pos, after, guard⟩ := o
  unfold evMore at h
  cases op with
  | load t a => exact (evLoadG_ok hG (fun x hx => hA a x hx) h).next
  | fieldAddr _ _ _ => exact fall_ok hA (fun _ _ => by simp) h
  | indexAddr _ _ _ => exact fall_ok hA (fun _ _ => by simp) h
  | nilCheck _ => exact fall_ok hA (fun _ _ => by simp) h
  | lookup t m k ok =>
    dsimp only at h
    cases hq : evLookup P H t (ρ m) (ρ k) ok with
    | some q =>
      rw [hq] at h
      obtain rfl := Option.some.inj h
      exact (evLookup_ok hL (fun a ha => hA m a ha) (fun a ha => hA k a ha) hq).next
    | none =>
      rw [hq] at h
      exact (evLookupA_ok hL (fun a ha => hA m a ha) (fun a ha => hA k a ha) h).next
  | range t x => exact (evRangeS_ok (fun a ha => hA x a ha) h).next
  | slice t x lo hi mx =>
    cases mx with
    | none => exact (evSlicePA_ok hL hA h).next
    | some _ => cases h
  | buildSlice t n ps =>
    have hl : SfOk σ nm w ((Instr.buildSlice t n (ps.map fun (i, x) => (i, ev x))).run P w) r := evNoRow_ok (by simp) h
    exact hl.next
  | convert s d x => exact (evUns_ok hL (fun a ha => hA x a ha) h).next
  | binOp op t x y yt =>
    dsimp only at h
    split at h
    · rename_i a b hx hy
      cases ho : K.orc op a b with
      | none =>
        rw [ho] at h
        dsimp only at h
        cases hp : evPos op (ρ x) (ρ y) with
        | some q =>
          rw [hp] at h
          obtain rfl := Option.some.inj h
          exact (evPos_ok hA hp).next
        | none =>
          rw [hp] at h
          exact (evSameP_ok hA h).next
      | some q =>
        rw [ho] at h
        obtain rfl := Option.some.inj h
        obtain ⟨z, h1, h2⟩ := (hE σ (Sub.refl σ)).orc op a b q ho _ _ (hA x _ hx) (hA y _ hy) t x y w
        have hl : SfOk σ nm w ((do eqGuard op t x y (ev x) (ev y); binOp op t (ev x) (ev y) : Sem Value).run P w) (.v (.e q)) := ⟨z, h1, h2⟩
        exact hl.next
    · cases h
  | call c =>
    obtain ⟨callee, args, ats⟩ := c
    dsimp only at h
    split at h
    · rename_i x ha
      have e1 : args = #[x] := by apply Array.ext'; simpa using ha
      subst e1
      have hl := (evData_ok (w := w) (nm := nm) (σ := σ) (P := P) (ts := ats) (ty := ty) (fun a ha => hA x a ha) h).next
      simpa [execOp, resolve, invoke, builtin] using hl
    · rename_i x ha
      have e1 : args = #[x] := by apply Array.ext'; simpa using ha
      subst e1
      obtain ⟨t, rfl, hl⟩ := evCap0_ok (w := w) (nm := nm) (σ := σ) (ty := ty) (fun a ha => hA x a ha) h
      have := hl.next
      simpa [execOp, resolve, invoke, builtin] using this
    · rename_i x ha
      have e1 : args = #[x] := by apply Array.ext'; simpa using ha
      subst e1
      obtain ⟨t, rfl, hl⟩ := evLenN_ok (w := w) (nm := nm) (σ := σ) (ty := ty) hE (fun a ha => hA x a ha) h
      have := hl.next
      simpa [execOp, resolve, invoke, builtin] using this
    · exact fall_ok hA (fun _ _ => by simp) h
    · exact fall_ok hA (fun _ _ => by simp) h
    · exact fall_ok hA (fun _ _ => by simp) h
    · cases h
  | _ => cases h
/-- The frequent ones. -/
noncomputable def evQuick (P : Program) (H : Tr AO) (ρ : Operand → Option AV) (o : Oper) : Option Sf := match o.op with
  | .move x => (match ρ x with
    | some a => some (.v a)
    | none => none)
  | .assign x => (match ρ x with
    | some a => some (.v a)
    | none => none)
  | .binOp op t x y _ => evInt op (ρ x) (ρ y)
  | .load t a => evLoad P H t (ρ a)
  | .fieldAddr t x f => evFieldAddr P t (ρ x) f
  | .indexAddr t x i => evIndexAddr P t (ρ x) (ρ i)
  | _ => none
theorem evQuick_ok {ρ : Operand → Option AV} {ev : Operand → Value} {H : Tr AO} {nm : Nat} (hL : LiveAt σ H w) (hA : HA σ ρ ev) {o : Oper} {r : Sf} (h : evQuick P H ρ o = some r) : SfN σ nm w ((execOp ev o).run P w) r := by
  obtain ⟨dst, op, ty, pos, after, guard⟩ := o
  unfold evQuick at h
  cases op with
  | move x => exact evSoft_ok hL hA (o := ⟨dst, .move x, ty, pos, after, guard⟩) h
  | assign x => exact evSoft_ok hL hA (o := ⟨dst, .assign x, ty, pos, after, guard⟩) h
  | binOp op t x y yt => exact (evInt_ok hA h).next
  | load t a => exact (evLoad_ok hL (fun x hx => hA a x hx) h).next
  | fieldAddr t x f => exact (evFieldAddr_ok (fun a ha => hA x a ha) h).next
  | indexAddr t x i => exact (evIndexAddr_ok (fun a ha => hA x a ha) (fun a ha => hA i a ha) h).next
  | _ => cases h
noncomputable def evRead (P : Program) (K : Kt) (H : Tr AO) (ρ : Operand → Option AV) (o : Oper) : Option Sf := match evQuick P H ρ o with
  | some r => some r
  | none => (match evSoft P H ρ o with
    | some r => some r
    | none => evMore P K H ρ o)
theorem evRead_ok {ρ : Operand → Option AV} {ev : Operand → Value} {H : Tr AO} {nm : Nat} (hG : GOk K w) (hE : EOk P K σ) (hL : LiveAt σ H w) (hA : HA σ ρ ev) {o : Oper} {r : Sf} (h : evRead P K H ρ o = some r) : SfN σ nm w ((execOp ev o).run P w) r := by
  unfold evRead at h
  split at h
  · rename_i q hq
    obtain rfl := Option.some.inj h
    exact evQuick_ok hL hA hq
  · split at h
    · rename_i q hq
      obtain rfl := Option.some.inj h
      exact evSoft_ok hL hA hq
    · exact evMore_ok hG hE hL hA h
/-- One that reads, or makes a block. -/
theorem evSoft_wp {ρ : Operand → Option AV} {a : Act} {H : Tr AO} {nm : Nat} (hG : GOk K w) (hE : EOk P K σ) (hL : LiveAt σ H w) (hA : HA σ ρ a.eval) {o : Oper} {r : Sf} (h : evRead P K H ρ o = some r) {next : Act → World → Prop} {Q : Exit → Act → World → Prop}
    (hn : match r with
      | .v x => ∀ u, x.R σ u → next (a.put o.dst u) w
      | .nw k ob => ∀ u W obj tot, W.heap = w.heap.push obj → Beside w W → (∀ τ, Sub σ τ → τ nm = some ⟨w.heap.size, 0, tot, nov⟩ → (k.av nm).R τ u ∧ ob.R τ W ⟨w.heap.size, 0, tot, nov⟩) → next (a.put o.dst u) W) : o.wp P a w next Q := by
  have hk := evRead_ok (nm := nm) hG hE hL hA h
  unfold Oper.wp
  cases r with
  | v x =>
    obtain ⟨u, h1, h2⟩ := hk
    rw [h1, Oper.upon_value]
    exact hn u h2
  | nw k ob =>
    obtain ⟨u, W, obj, tot, h1, h2, h3, h4⟩ := hk
    rw [h1, Oper.upon_value]
    exact hn u W obj tot h2 h3 h4
/-- A call put off that does nothing when its time comes. -/
noncomputable def evPut (K : Kt) (ρ : Operand → Option AV) (o : Oper) : Bool := match o.op with
  | .defer c => (match c.callee, c.args.toList with
    | .value f, [] => (match ρ f with
      | some (.e (.lf (.fn g [_, _]))) => K.idl g
      | _ => false)
    | _, _ => false)
  | _ => false
/-- An operation, in the order of the text. -/
noncomputable def evOp (P : Program) (K : Kt) (F : Doer) (n : Nat) (R : Tr AV) (S : St) (o : Oper) : Option (Tr AV × St) := match evRead P K S.H (rho R) o with
  | some (.v x) => (match setT n R o.dst x with
    | some R' => some (R', S)
    | none => none)
  | some (.nw k ob) => (match fAO ob fun ob => Tr.upd (some ob) purse S.H S.nx with
    | some H' => (match setT n R o.dst (k.av S.nx) with
      | some R' => fN S.nx fun nx => some (R', ⟨H', nx + 1⟩)
      | none => none)
    | none => none)
  | none => (match evHard P F (rho R) S o with
    | some (x, T) => (match setT n R o.dst x with
      | some R' => some (R', T)
      | none => none)
    | none => bif evPut K (rho R) o then (match setT n R o.dst (.tu []) with
      | some R' => some (R', S)
      | none => none) else none)
theorem evPut_ok (hI : IdlOk P K) {ρ : Operand → Option AV} {a : Act} (hA : HA σ ρ a.eval) {o : Oper} (he : evPut K ρ o = true) {next : Act → World → Prop} {Q : Exit → Act → World → Prop}
    (hn : ∀ d, Idle P d → next ({ a with defers := d :: a.defers }.put o.dst undef) w) : o.wp P a w next Q := by
  obtain ⟨dst, op, ty, pos, after, guard⟩ := o
  unfold evPut at he
  cases op with
  | defer c =>
    obtain ⟨callee, args, ats⟩ := c
    dsimp only at he
    split at he
    · rename_i f ha
      have e1 : args = #[] := by apply Array.ext'; simpa using ha
      subst e1
      split at he
      · rename_i g p q hf
        obtain ⟨vs, hc, hv⟩ : (AV.e (.lf (.fn g [p, q]))).R σ (a.eval f) := hA f _ hf
        obtain ⟨v1, v2, rfl⟩ : ∃ v1 v2, vs = [v1, v2] := by
          cases vs with
          | nil => exact hc.elim
          | cons v1 vs =>
            cases vs with
            | nil => exact hc.2.elim
            | cons v2 vs =>
              cases vs with
              | nil => exact ⟨v1, v2, rfl⟩
              | cons _ _ => exact hc.2.2.elim
        obtain ⟨⟨u1, -, rfl⟩, ⟨u2, -, rfl⟩, -⟩ := hc
        obtain ⟨i1, i2⟩ := hI g he u1 u2
        have hrun : (execOp a.eval { dst, op := .defer ⟨.value f, #[], ats⟩, type := ty, pos, after, guard }).run P w = .ok (.defer { target := .fn (.func g) #[.pointer (some u1), .pointer (some u2)], args := #[] }) w := by
          simp [execOp, resolve, hv, Deferred.ofValue]
        unfold Oper.wp
        rw [hrun, Oper.upon_defer]
        exact hn _ ⟨_, _, _, _, rfl, fun w => by simpa [invoke] using i1 _ w, i2⟩
      · cases he
    · cases he
  | _ => cases he
theorem evOp_ok (hI : IdlOk P K) (hG : GOk K w0) (hE : EOk P K σ) (hF : DoerOk P K F) {n : Nat} {R R' : Tr AV} {a : Act} (hT : TR σ n R a) (h : Ok w0 σ S w) {o : Oper} (he : evOp P K F n R S o = some (R', T)) {next : Act → World → Prop} {Q : Exit → Act → World → Prop}
    (hn : ∀ a' w' τ, (DfOk P a.defers → DfOk P a'.defers) → TR τ n R' a' → Ok w0 τ T w' → Fr σ S w τ T w' → next a' w') : o.wp P a w next Q := by
  unfold evOp at he
  cases hs : evRead P K S.H (rho R) o with
  | some r =>
    rw [hs] at he
    refine evSoft_wp (nm := S.nx) (hG.at h.below) hE h.liveAt hT.HA hs ?_
    cases r with
    | v x =>
      dsimp only at he ⊢
      cases hR : setT n R o.dst x with
      | none => rw [hR] at he; cases he
      | some R1 =>
        rw [hR] at he
        simp only [Option.some.injEq, Prod.mk.injEq] at he
        obtain ⟨rfl, rfl⟩ := he
        exact fun u hu => hn _ _ _ (fun hd => by rw [put_defers]; exact hd) (hT.set hR hu) h (Fr.refl ..)
    | nw k ob =>
      dsimp only at he ⊢
      rw [fAO_eq] at he
      cases hH : Tr.upd (some ob) purse S.H S.nx with
      | none => rw [hH] at he; cases he
      | some H' =>
        rw [hH] at he
        dsimp only at he
        cases hR : setT n R o.dst (k.av S.nx) with
        | none => rw [hR] at he; cases he
        | some R1 =>
          rw [hR] at he
          dsimp only at he
          rw [fN_eq] at he
          simp only [Option.some.injEq, Prod.mk.injEq] at he
          obtain ⟨rfl, rfl⟩ := he
          intro u W obj tot hW hB hr
          have hn0 := h.nx_none
          have hsub := Sg.sub_put ⟨w.heap.size, 0, tot, nov⟩ hn0
          obtain ⟨k1, k2⟩ := hr _ hsub (Sg.put_same ..)
          obtain ⟨r1, r2⟩ := h.new hn0 (Nat.le_refl _) (Nat.le_succ _) (Nat.lt_succ_self _) hH hW hB k2
          exact hn _ _ _ (fun hd => by rw [put_defers]; exact hd) ((hT.mono hsub).set hR k1) r1 r2
  | none =>
    rw [hs] at he
    dsimp only at he
    cases hh : evHard P F (rho R) S o with
    | none =>
      rw [hh] at he
      dsimp only at he
      cases hp : evPut K (rho R) o with
      | false => rw [hp] at he; cases he
      | true =>
        rw [hp, cond_true] at he
        cases hR : setT n R o.dst (.tu []) with
        | none => rw [hR] at he; cases he
        | some R1 =>
          rw [hR] at he
          simp only [Option.some.injEq, Prod.mk.injEq] at he
          obtain ⟨rfl, rfl⟩ := he
          refine evPut_ok hI hT.HA hp fun d hd => hn _ _ σ (fun hds => ?_) ?_ h (Fr.refl ..)
          · rw [put_defers]
            intro d' hm
            rcases List.mem_cons.1 hm with rfl | hm
            · exact hd
            · exact hds d' hm
          · have hT' : TR σ n R { a with defers := d :: a.defers } := hT
            exact hT'.set hR ⟨[], trivial, rfl⟩
    | some y =>
      obtain ⟨x, T1⟩ := y
      rw [hh] at he
      dsimp only at he
      cases hR : setT n R o.dst x with
      | none => rw [hR] at he; cases he
      | some R1 =>
        rw [hR] at he
        simp only [Option.some.injEq, Prod.mk.injEq] at he
        obtain ⟨rfl, rfl⟩ := he
        exact evHard_ok hF hG hE hT.HA h hh fun u w' τ h1 h2 h3 => hn _ _ _ (fun hd => by rw [put_defers]; exact hd) ((hT.mono h3.sub).set hR h1) h2 h3
/-- An operation, in the order of the text: the frequent ones first. -/
noncomputable def evOpF (P : Program) (K : Kt) (F : Doer) (n : Nat) (R : Tr AV) (S : St) (o : Oper) : Option (Tr AV × St) := match o.op with
  | .move x => (match rho R x with
    | some a => (match setT n R o.dst a with
      | some R' => some (R', S)
      | none => none)
    | none => none)
  | .assign x => (match rho R x with
    | some a => (match setT n R o.dst a with
      | some R' => some (R', S)
      | none => none)
    | none => none)
  | .binOp op t x y _ => (match evInt op (rho R x) (rho R y) with
    | some (.v a) => (match setT n R o.dst a with
      | some R' => some (R', S)
      | none => none)
    | _ => evOp P K F n R S o)
  | .load t a => (match evLoad P S.H t (rho R a) with
    | some (.v a) => (match setT n R o.dst a with
      | some R' => some (R', S)
      | none => none)
    | _ => evOp P K F n R S o)
  | .fieldAddr t x f => (match evFieldAddr P t (rho R x) f with
    | some (.v a) => (match setT n R o.dst a with
      | some R' => some (R', S)
      | none => none)
    | _ => evOp P K F n R S o)
  | .indexAddr t x i => (match evIndexAddr P t (rho R x) (rho R i) with
    | some (.v a) => (match setT n R o.dst a with
      | some R' => some (R', S)
      | none => none)
    | _ => evOp P K F n R S o)
  | .store t a x => (match evStore P S t (rho R a) (rho R x) with
    | some T => (match setT n R o.dst (.tu []) with
      | some R' => some (R', T)
      | none => none)
    | none => none)
  | _ => evOp P K F n R S o
theorem evOpF_eq {n : Nat} {R : Tr AV} {o : Oper} {y : Tr AV × St} (h : evOpF P K F n R S o = some y) : evOp P K F n R S o = some y := by
  have quick : ∀ {a : AV}, evQuick P S.H (rho R) o = some (.v a) → (match setT n R o.dst a with
      | some R' => some (R', S)
      | none => none) = some y → evOp P K F n R S o = some y := fun {a} hq hs => by
    unfold evOp evRead
    rw [hq]
    exact hs
  obtain ⟨dst, op, ty, pos, after, guard⟩ := o
  unfold evOpF at h
  cases op with
  | move x =>
    dsimp only at h
    cases hx : rho R x with
    | none => rw [hx] at h; cases h
    | some a => rw [hx] at h; exact quick (by unfold evQuick; dsimp only; rw [hx]) h
  | assign x =>
    dsimp only at h
    cases hx : rho R x with
    | none => rw [hx] at h; cases h
    | some a => rw [hx] at h; exact quick (by unfold evQuick; dsimp only; rw [hx]) h
  | binOp op t x y' yt =>
    dsimp only at h
    split at h
    · rename_i a hq; exact quick hq h
    · exact h
  | load t a =>
    dsimp only at h
    split at h
    · rename_i a hq; exact quick hq h
    · exact h
  | fieldAddr t x f =>
    dsimp only at h
    split at h
    · rename_i a hq; exact quick hq h
    · exact h
  | indexAddr t x i =>
    dsimp only at h
    split at h
    · rename_i a hq; exact quick hq h
    · exact h
  | store t a x =>
    dsimp only at h
    cases hq : evStore P S t (rho R a) (rho R x) with
    | none => rw [hq] at h; cases h
    | some T =>
      rw [hq] at h
      have e1 : evRead P K S.H (rho R) ⟨dst, .store t a x, ty, pos, after, guard⟩ = none := rfl
      have e2 : evHard P F (rho R) S ⟨dst, .store t a x, ty, pos, after, guard⟩ = some (.tu [], T) := by
        unfold evHard
        dsimp only
        rw [hq]
      unfold evOp
      rw [e1, e2]
      exact h
  | _ => exact h
end
end Go.Proofs.YtffccgnhdpjlaaaGreatDoor.Ev
