/- Strings, tests for nil, lengths, parts of tuples, closures, new maps, by the runner. -/
import Derived.Test.YtffccgnhdpjlaaaGreatDoorEvF
set_option linter.unusedVariables false
set_option linter.unusedSimpArgs false
namespace Go.Proofs.YtffccgnhdpjlaaaGreatDoor.Ev
open Go Go.RowKit
section
variable {P : Program} {σ : Sg} {nm : Nat} {w : World} {H : Tr AO}
/-- Two values of which one is nil: are they alike? By the kind of type that tells how they are held together. -/
noncomputable def nilEq (P : Program) (t : TypeId) (a b : Lf) : Option Bool := match P.underlying t, a, b with
  | some (.pointer _), .p none, .p o => some o.isNone
  | some (.pointer _), .p (some _), .p none => some false
  | some (.slice _), .sl none _ _, .sl o _ _ => some o.isNone
  | some (.slice _), .sl (some _) _ _, .sl none _ _ => some false
  | some (.map _ _), .m none, .m o => some o.isNone
  | some (.map _ _), .m (some _), .m none => some false
  | _, _, _ => none
theorem nilEq_ok {t : TypeId} {a b : Lf} {u v : Value} {r : Bool} (ha : a.R σ u) (hb : b.R σ v) (h : nilEq P t a b = some r) :
    (Op.equal t u v).run P w = .ok r w ∧ (∀ op (x y : Operand), (eqGuard op t x y u v).run P w = .ok () w) ∧ (∀ op, (op = .eql ∨ op = .neq) → binOp op t u v = (if op = .eql then (do pure (.bool (← Op.equal t u v))) else (do pure (.bool (!(← Op.equal t u v)))))) := by
  have key : ∀ {u v : Value}, (∀ d, (Op.equalIn (d + 1) t u v).run P w = .ok r w) → (Op.equal t u v).run P w = .ok r w := fun h => by
    unfold Op.equal
    exact h 9999
  unfold nilEq at h
  split at h <;> first | (cases h; done) | skip
  all_goals (obtain rfl := Option.some.inj h)
  · rename_i e o hu
    obtain rfl : u = _ := ha
    cases o with
    | none =>
      obtain rfl : v = _ := hb
      refine ⟨key fun d => by simp [Op.equalIn, run_underlying hu], fun op x y => by unfold eqGuard; cases op <;> rfl, fun op ho => by rcases ho with rfl | rfl <;> rfl⟩
    | some q =>
      obtain ⟨z, -, rfl⟩ := hb
      refine ⟨key fun d => by simp [Op.equalIn, run_underlying hu], fun op x y => by unfold eqGuard; cases op <;> rfl, fun op ho => by rcases ho with rfl | rfl <;> rfl⟩
  · rename_i e q hu
    obtain ⟨z, -, rfl⟩ := ha
    obtain rfl : v = _ := hb
    refine ⟨key fun d => by simp [Op.equalIn, run_underlying hu], fun op x y => by unfold eqGuard; cases op <;> rfl, fun op ho => by rcases ho with rfl | rfl <;> rfl⟩
  · rename_i e _ _ o _ _ hu
    obtain ⟨rfl, -⟩ := ha
    cases o with
    | none =>
      obtain ⟨rfl, -⟩ := hb
      refine ⟨key fun d => by simp [Op.equalIn, run_underlying hu], fun op x y => by unfold eqGuard; cases op <;> rfl, fun op ho => by rcases ho with rfl | rfl <;> rfl⟩
    | some q =>
      obtain ⟨B, -, ⟨c, rfl, -⟩ | ⟨-, z, rfl⟩⟩ := hb <;>
      exact ⟨key fun d => by simp [Op.equalIn, run_underlying hu], fun op x y => by unfold eqGuard; cases op <;> rfl, fun op ho => by rcases ho with rfl | rfl <;> rfl⟩
  · rename_i e q _ _ _ _ hu
    obtain ⟨rfl, -⟩ := hb
    obtain ⟨B, -, ⟨c, rfl, -⟩ | ⟨-, z, rfl⟩⟩ := ha <;>
    exact ⟨key fun d => by simp [Op.equalIn, run_underlying hu], fun op x y => by unfold eqGuard; cases op <;> rfl, fun op ho => by rcases ho with rfl | rfl <;> rfl⟩
  · rename_i k e o hu
    obtain rfl : u = _ := ha
    cases o with
    | none =>
      obtain rfl : v = _ := hb
      exact ⟨key fun d => by simp [Op.equalIn, run_underlying hu], fun op x y => by unfold eqGuard; cases op <;> rfl, fun op ho => by rcases ho with rfl | rfl <;> rfl⟩
    | some q =>
      obtain ⟨B, -, rfl⟩ := hb
      exact ⟨key fun d => by simp [Op.equalIn, run_underlying hu], fun op x y => by unfold eqGuard; cases op <;> rfl, fun op ho => by rcases ho with rfl | rfl <;> rfl⟩
  · rename_i k e q hu
    obtain ⟨B, -, rfl⟩ := ha
    obtain rfl : v = _ := hb
    exact ⟨key fun d => by simp [Op.equalIn, run_underlying hu], fun op x y => by unfold eqGuard; cases op <;> rfl, fun op ho => by rcases ho with rfl | rfl <;> rfl⟩
noncomputable def evBin (P : Program) (op : BinOp) (t : TypeId) (a b : Option AV) : Option Sf := match a, b with
  | some (.e (.lf (.s l))), some (.e (.lf (.s m))) => match op with
    | .add => bif Nat.ble (l.length + m.length) 1000000 then some (.v (.e (.lf (.s (l ++ m))))) else none
    | .eql => some (.v (.e (.lf (.b (nbeq l m)))))
    | .neq => some (.v (.e (.lf (.b (!nbeq l m)))))
    | _ => none
  | some (.e (.lf x)), some (.e (.lf y)) => match op with
    | .eql => match nilEq P t x y with
      | some r => some (.v (.e (.lf (.b r))))
      | none => none
    | .neq => match nilEq P t x y with
      | some r => some (.v (.e (.lf (.b (!r)))))
      | none => none
    | _ => none
  | _, _ => none
theorem evBin_ok {op : BinOp} {t : TypeId} {x y : Operand} {ρ : Operand → Option AV} {ev : Operand → Value} (hA : HA σ ρ ev) {r : Sf} (h : evBin P op t (ρ x) (ρ y) = some r) :
    SfOk σ nm w ((do eqGuard op t x y (ev x) (ev y); binOp op t (ev x) (ev y) : Sem Value).run P w) r := by
  have hx := hA x
  have hy := hA y
  unfold evBin at h
  split at h
  · rename_i l m hl hm
    obtain ⟨h1, b1⟩ := hx _ hl
    obtain ⟨h2, b2⟩ := hy _ hm
    rw [h1, h2]
    split at h
    · cases hc : Nat.ble (l.length + m.length) 1000000 with
      | false => rw [hc] at h; cases h
      | true =>
        rw [hc] at h
        simp only [cond_true, Option.some.injEq] at h
        subst h
        have hle := Nat.le_of_ble_eq_true hc
        have hmax : ¬ (((bs l).size + (bs m).size : Nat) : Int) > IntKind.i64.max := by
          rw [bs_size, bs_size]
          have : IntKind.i64.max = 9223372036854775807 := by decide
          omega
        refine ⟨.string (bs (l ++ m)), ?_, rfl, fun c hc => (List.mem_append.1 hc).elim (b1 c) (b2 c)⟩
        have e : (eqGuard .add t x y (.string (bs l)) (.string (bs m))).run P w = .ok () w := rfl
        rw [Sem.run_bind, e, Result.andThen_ok]
        show (Op.stringOp .add (bs l) (bs m)).run P w = _
        unfold Op.stringOp
        dsimp only
        rw [if_neg hmax, bs_append]
        rfl
    · simp only [Option.some.injEq] at h
      subst h
      refine ⟨.bool (nbeq l m), ?_, rfl⟩
      have e : (eqGuard .eql t x y (.string (bs l)) (.string (bs m))).run P w = .ok () w := rfl
      rw [Sem.run_bind, e, Result.andThen_ok]
      show (Op.stringOp .eql (bs l) (bs m)).run P w = _
      unfold Op.stringOp
      dsimp only
      rw [bs_beq b1 b2]
      rfl
    · simp only [Option.some.injEq] at h
      subst h
      refine ⟨.bool (!nbeq l m), ?_, rfl⟩
      have e : (eqGuard .neq t x y (.string (bs l)) (.string (bs m))).run P w = .ok () w := rfl
      rw [Sem.run_bind, e, Result.andThen_ok]
      show (Op.stringOp .neq (bs l) (bs m)).run P w = _
      unfold Op.stringOp
      dsimp only
      rw [bs_beq b1 b2]
      rfl
    · cases h
  · rename_i a b _ hl hm
    have h1 : a.R σ (ev x) := hx _ hl
    have h2 : b.R σ (ev y) := hy _ hm
    split at h
    · cases hn : nilEq P t a b with
      | none => rw [hn] at h; cases h
      | some q =>
        rw [hn] at h
        simp only [Option.some.injEq] at h
        subst h
        obtain ⟨k1, k2, k3⟩ := nilEq_ok (w := w) h1 h2 hn
        refine ⟨.bool q, ?_, rfl⟩
        rw [Sem.run_bind, k2, Result.andThen_ok, k3 .eql (Or.inl rfl), if_pos rfl]
        simp [k1]
    · cases hn : nilEq P t a b with
      | none => rw [hn] at h; cases h
      | some q =>
        rw [hn] at h
        simp only [Option.some.injEq] at h
        subst h
        obtain ⟨k1, k2, k3⟩ := nilEq_ok (w := w) h1 h2 hn
        refine ⟨.bool (!q), ?_, rfl⟩
        rw [Sem.run_bind, k2, Result.andThen_ok, k3 .neq (Or.inr rfl), if_neg (by decide)]
        simp [k1]
    · cases h
  · cases h
/-! ### lengths -/
theorem RM_len {σ : Sg} : ∀ {l : List (AE × AE)} {vs : List MapEntry}, RM σ l vs → l.length = vs.length
  | [], [], _ => rfl
  | _ :: _, _ :: _, h => by rw [List.length_cons, List.length_cons, RM_len h.2.2]
  | [], _ :: _, h => h.elim
  | _ :: _, [], h => h.elim
noncomputable def evLen (P : Program) (H : Tr AO) (t : TypeId) (x : Option AV) : Option Sf := match x, P.underlying t with
  | some (.e (.lf (.s l))), some .string => some (.v (.e (.lf (.i .i64 (l.length : Int)))))
  | some (.e (.lf (.sl none _ _))), some (.slice _) => some (.v (.e (.lf (.i .i64 0))))
  | some (.e (.lf (.sl (some _) len _))), some (.slice _) => some (.v (.e (.lf (.i .i64 (len : Int)))))
  | some (.e (.lf (.m none))), some (.map _ _) => some (.v (.e (.lf (.i .i64 0))))
  | some (.e (.lf (.m (some n)))), some (.map _ _) => match H.get n with
    | some (.mp es) => some (.v (.e (.lf (.i .i64 (es.length : Int)))))
    | _ => none
  | _, _ => none
theorem evLen_ok {t ty : TypeId} {x : Option AV} {v : Value} {r : Sf} (hL : LiveAt σ H w) (hx : ∀ a, x = some a → a.R σ v) (h : evLen P H t x = some r) : SfOk σ nm w ((Builtin.len_ #[t] ty #[v]).run P w) r := by
  unfold evLen at h
  split at h
  · rename_i l hu
    obtain ⟨rfl, -⟩ := hx _ rfl
    obtain rfl := Option.some.inj h
    exact ⟨.int .i64 (l.length : Int), by simp [Builtin.len_, run_underlying hu, bs_size, goInt], rfl⟩
  · rename_i e hu
    obtain ⟨rfl, -⟩ := hx _ rfl
    obtain rfl := Option.some.inj h
    exact ⟨.int .i64 0, by simp [Builtin.len_, run_underlying hu, goInt], rfl⟩
  · rename_i q len sz e hu
    obtain ⟨B, -, hv⟩ := hx _ rfl
    obtain rfl := Option.some.inj h
    rcases hv with ⟨c, rfl, -⟩ | ⟨rfl, u, rfl⟩
    · exact ⟨.int .i64 (len : Int), by simp [Builtin.len_, run_underlying hu, goInt], rfl⟩
    · exact ⟨.int .i64 0, by simp [Builtin.len_, run_underlying hu, goInt], rfl⟩
  · rename_i k e hu
    obtain rfl : v = _ := hx _ rfl
    obtain rfl := Option.some.inj h
    exact ⟨.int .i64 0, by simp [Builtin.len_, run_underlying hu, goInt], rfl⟩
  · rename_i n k e hu
    obtain ⟨B, hB, rfl⟩ := hx _ rfl
    split at h
    · rename_i es hn
      obtain rfl := Option.some.inj h
      obtain ⟨C, hC, rs, clk, h1, h2⟩ := hL n _ hn
      obtain rfl := Option.some.inj (hB.symm.trans hC)
      have hl : es.length = rs.size := (RM_len h2).trans Array.length_toList
      refine ⟨.int .i64 (es.length : Int), ?_, rfl⟩
      have hg : (getObj B.b).run P w = .ok (.map rs clk) w := by
        simp only [getObj, Sem.run, h1]
      simp [Builtin.len_, run_underlying hu, hg, goInt, hl]
    · cases h
  · cases h
/-! ### tuples, closures, maps -/
theorem RE_get {σ : Sg} : ∀ {l : List AE} {vs : List Value}, RE σ l vs → ∀ (i : Nat) (x : AE), l[i]? = some x → ∃ v, vs[i]? = some v ∧ x.R σ v
  | [], [], _, _, _, h => by simp at h
  | _ :: _, v :: _, h, 0, x, hx => by
    simp only [List.getElem?_cons_zero, Option.some.injEq] at hx
    subst hx
    exact ⟨v, rfl, h.1⟩
  | _ :: _, _ :: _, h, i + 1, x, hx => by
    simp only [List.getElem?_cons_succ] at hx ⊢
    exact RE_get h.2 i x hx
  | [], _ :: _, h, _, _, _ => h.elim
  | _ :: _, [], h, _, _, _ => h.elim
noncomputable def evExtract (x : Option AV) (i : Nat) : Option Sf := match x with
  | some (.tu l) => match l[i]? with
    | some a => some (.v (.e a))
    | none => none
  | _ => none
theorem evExtract_ok {x : Option AV} {v : Value} {i : Nat} {r : Sf} (hx : ∀ a, x = some a → a.R σ v) (h : evExtract x i = some r) : SfOk σ nm w ((Instr.extract v i).run P w) r := by
  unfold evExtract at h
  split at h
  · rename_i l
    obtain ⟨vs, h1, rfl⟩ := hx _ rfl
    cases hi : l[i]? with
    | none => rw [hi] at h; cases h
    | some a =>
      rw [hi] at h
      obtain rfl := Option.some.inj h
      obtain ⟨v, k1, k2⟩ := RE_get h1 _ _ hi
      exact ⟨v, by simp [Instr.extract, k1], k2⟩
  · cases h
noncomputable def acaps (ρ : Operand → Option AV) : List Operand → Option (List (Nat × Nat))
  | [] => some []
  | x :: l => match ρ x with
    | some (.e (.lf (.p (some a)))) => match acaps ρ l with
      | some r => some (a :: r)
      | none => none
    | _ => none
theorem acaps_ok {ρ : Operand → Option AV} {ev : Operand → Value} (hA : HA σ ρ ev) : ∀ {l : List Operand} {r : List (Nat × Nat)}, acaps ρ l = some r → CR σ r (l.map ev)
  | [], r, h => by
    obtain rfl := Option.some.inj h
    trivial
  | x :: l, r, h => by
    unfold acaps at h
    split at h
    · rename_i a ha
      cases hr : acaps ρ l with
      | none => rw [hr] at h; cases h
      | some q =>
        rw [hr] at h
        obtain rfl := Option.some.inj h
        exact ⟨hA x _ ha, acaps_ok hA hr⟩
    · cases h
noncomputable def evMakeFunc (f : Fn) (first : List Operand) (cap : Option (List (Nat × Nat))) : Option Sf := match f, first, cap with
  | .func f, [], some c => some (.v (.e (.lf (.fn f c))))
  | _, _, _ => none
theorem evMakeFunc_ok {ρ : Operand → Option AV} {ev : Operand → Value} (hA : HA σ ρ ev) {f : Fn} {first cap : Array Operand} {r : Sf} (h : evMakeFunc f first.toList (acaps ρ cap.toList) = some r) :
    SfOk σ nm w ((Instr.makeFunc f (first.map ev) (cap.map ev)).run P w) r := by
  unfold evMakeFunc at h
  split at h
  · rename_i f c hf hc
    obtain rfl := Option.some.inj h
    have h1 : first = #[] := by apply Array.ext'; simpa using hf
    subst h1
    refine ⟨_, rfl, (cap.toList.map ev), acaps_ok hA hc, ?_⟩
    have e : (cap.toList.map ev).toArray = cap.map ev := by apply Array.ext'; simp
    rw [e]
    simp
  · cases h
noncomputable def evMakeMap (r : Option Operand) : Option Sf := match r with
  | none => some (.nw .m (.mp []))
  | some _ => none
theorem evMakeMap_ok {t : TypeId} {ev : Operand → Value} {q : Option Operand} {r : Sf} (h : evMakeMap q = some r) : SfOk σ nm w ((Instr.makeMap t (q.map ev)).run P w) r := by
  unfold evMakeMap at h
  split at h
  · obtain rfl := Option.some.inj h
    exact ⟨.map (some w.heap.size), { w with heap := w.heap.push (.map #[] 0) }, .map #[] 0, 0, by simp [Instr.makeMap], rfl, Beside.refl w, fun τ hs ht => ⟨⟨_, ht, rfl⟩, #[], 0, push_new rfl, trivial⟩⟩
  · cases h
end
end Go.Proofs.YtffccgnhdpjlaaaGreatDoor.Ev
