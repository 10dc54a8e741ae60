/- Maps, by the runner: look-up, what is put in, what is taken out. -/
import Derived.Test.YtffccgnhdpjlaaaGreatDoorEvK
import Derived.MapKept
import GoSem.Instr.MapUpdate
set_option linter.unusedVariables false
set_option linter.unusedSimpArgs false
namespace Go.Proofs.YtffccgnhdpjlaaaGreatDoor.Ev
open Go Go.RowKit
noncomputable def keyOk : TypeDesc → Lf → Bool
  | .int k, .i k' _ => decide (k = k')
  | .string, .s _ => true
  | .bool, .b _ => true
  | _, _ => false
noncomputable def keyEq : Lf → Lf → Bool
  | .i _ a, .i _ b => decide (a = b)
  | .s a, .s b => nbeq a b
  | .b a, .b b => a == b
  | _, _ => false
noncomputable def mapFind (td : TypeDesc) (k : Lf) : List (AE × AE) → Nat → Option (Option (Nat × AE))
  | [], _ => some none
  | (.lf x, v) :: l, i => bif keyOk td x then (bif keyEq k x then some (some (i, v)) else mapFind td k l (i + 1)) else none
  | _ :: _, _ => none
theorem key_is {σ : Sg} {td : TypeDesc} {a : Lf} {u : Value} (h : keyOk td a = true) (hr : a.R σ u) : MapKept.IsKey td u := by
  unfold keyOk at h
  split at h
  · obtain rfl : u = _ := hr
    exact (of_decide_eq_true h).symm
  · obtain ⟨rfl, -⟩ := hr
    trivial
  · obtain rfl : u = _ := hr
    trivial
  · cases h
theorem key_now {σ : Sg} {td : TypeDesc} {a b : Lf} {u v : Value} (ha : keyOk td a = true) (hb : keyOk td b = true) (hu : a.R σ u) (hv : b.R σ v) : Instr.sameNow td u v = some (keyEq a b) := by
  unfold keyOk at ha
  split at ha
  · rename_i k k' x
    have e1 := of_decide_eq_true ha
    subst e1
    cases b with
    | i k2 y =>
      have e2 : k = k2 := of_decide_eq_true hb
      subst e2
      rw [show u = _ from hu, show v = _ from hv]
      simp only [Instr.sameNow, if_true, keyEq]
      rfl
    | _ => cases hb
  · cases b with
    | s m =>
      obtain ⟨rfl, h1⟩ := hu
      obtain ⟨rfl, h2⟩ := hv
      simp only [Instr.sameNow, keyEq]
      rw [← bs_beq h1 h2]
      congr 1
      rw [Bool.eq_iff_iff, MapKept.bytes_beq]
      constructor
      · intro e; rw [e]; simp
      · intro e
        have e := eq_of_beq e
        rw [bs_toList, bs_toList] at e
        rw [bs_inj h1 h2 e]
    | _ => cases hb
  · cases b with
    | b y =>
      rw [show u = _ from hu, show v = _ from hv]
      rfl
    | _ => cases hb
  · cases ha
theorem mapFind_ok {σ : Sg} {td : TypeDesc} {k : Lf} {kv : Value} (hk : keyOk td k = true) (hr : k.R σ kv) : ∀ {es : List (AE × AE)} {rs : List MapEntry} {i : Nat} {r : Option (Nat × AE)}, RM σ es rs → mapFind td k es i = some r →
    (r = none ∧ Instr.findNow td kv rs i = some none) ∨ ∃ n v e, r = some (i + n, v) ∧ rs[n]? = some e ∧ n < es.length ∧ v.R σ e.val ∧ e.key = kv ∧ Instr.findNow td kv rs i = some (some (i + n, e.val))
  | [], [], i, r, _, h => by
    obtain rfl := Option.some.inj h
    exact Or.inl ⟨rfl, rfl⟩
  | (.lf x, v) :: es, e :: rs, i, r, hm, h => by
    unfold mapFind at h
    cases hx : keyOk td x with
    | false => rw [hx] at h; cases h
    | true =>
      rw [hx] at h
      simp only [cond_true] at h
      have hn := key_now hk hx hr hm.1
      cases hq : keyEq k x with
      | true =>
        rw [hq] at h hn
        simp only [cond_true] at h
        obtain rfl := Option.some.inj h
        obtain ⟨b, hb1, hb2⟩ := MapKept.sameNow_of_keys (key_is hk hr) (key_is hx hm.1)
        have hkey : e.key = kv := by
          rw [hn] at hb1
          exact (hb2.1 (Option.some.inj hb1).symm).symm
        exact Or.inr ⟨0, v, e, rfl, rfl, by simp, hm.2.1, hkey, by simp [Instr.findNow, hn]⟩
      | false =>
        rw [hq] at h hn
        simp only [cond_false] at h
        rcases mapFind_ok hk hr hm.2.2 h with ⟨h1, h2⟩ | ⟨n, v', e', h1, h2, h3, h4, h5, h6⟩
        · exact Or.inl ⟨h1, by simp [Instr.findNow, hn, h2]⟩
        · refine Or.inr ⟨n + 1, v', e', ?_, h2, by simpa using h3, h4, h5, ?_⟩
          · rw [h1]; congr 2; omega
          · simp only [Instr.findNow, hn]
            rw [h6]
            congr 3
            omega
  | (.ag _, _) :: es, _ :: rs, i, r, hm, h => by cases h
  | [], _ :: _, _, _, hm, _ => hm.elim
  | _ :: _, [], _, _, hm, _ => hm.elim
noncomputable def mapOf (H : Tr AO) : Option AV → Option (Option Nat × List (AE × AE))
  | some (.e (.lf (.m none))) => some (none, [])
  | some (.e (.lf (.m (some n)))) => match H.get n with
    | some (.mp es) => some (some n, es)
    | _ => none
  | _ => none
section
variable {P : Program} {σ : Sg} {w0 w : World} {S : St} {nm : Nat}
theorem mapOf_ok {H : Tr AO} {x : Option AV} {v : Value} {q : Option Nat} {es : List (AE × AE)} (hL : LiveAt σ H w) (hx : ∀ a, x = some a → a.R σ v) (h : mapOf H x = some (q, es)) :
    (q = none ∧ es = [] ∧ v = .map none) ∨ ∃ n B rs clk, q = some n ∧ H.get n = some (.mp es) ∧ σ n = some B ∧ v = .map (some B.b) ∧ w.heap[B.b]? = some (.map rs clk) ∧ RM σ es rs.toList := by
  unfold mapOf at h
  split at h
  · obtain rfl : v = _ := hx _ rfl
    simp only [Option.some.injEq, Prod.mk.injEq] at h
    exact Or.inl ⟨h.1.symm, h.2.symm, rfl⟩
  · rename_i n
    obtain ⟨B, hB, rfl⟩ := hx _ rfl
    split at h
    · rename_i es' hn
      simp only [Option.some.injEq, Prod.mk.injEq] at h
      obtain ⟨rfl, rfl⟩ := h
      obtain ⟨C, hC, rs, clk, h1, h2⟩ := hL n _ hn
      obtain rfl := Option.some.inj (hB.symm.trans hC)
      exact Or.inr ⟨n, B, rs, clk, rfl, hn, hB, rfl, h1, h2⟩
    · cases h
  · cases h
noncomputable def zAE (P : Program) (t : TypeId) : Option AE := match P.info? t with
  | some i => match i.zero with
    | some z => absE z
    | none => none
  | none => none
theorem zAE_ok {t : TypeId} {x : AE} (h : zAE P t = some x) : ∃ z, (∀ w, (zeroValue t).run P w = .ok z w) ∧ x.R σ z := by
  unfold zAE at h
  cases hi : P.info? t with
  | none => rw [hi] at h; cases h
  | some i =>
    rw [hi] at h
    dsimp only at h
    cases hz : i.zero with
    | none => rw [hz] at h; cases h
    | some z =>
      rw [hz] at h
      exact ⟨z, fun w => by simp [zeroValue, typeInfo, hi, hz], absE_R h⟩
noncomputable def evLookup (P : Program) (H : Tr AO) (t : TypeId) (m k : Option AV) (ok : Bool) : Option Sf := match P.underlying t with
  | some (.map kt et) => match P.underlying kt, mapOf H m, k with
    | some td, some (_, es), some (.e (.lf k)) => bif keyOk td k then (match mapFind td k es 0 with
      | some (some (_, v)) => some (.v (bif ok then .tu [v, .lf (.b true)] else .e v))
      | some none => (match zAE P et with
        | some z => some (.v (bif ok then .tu [z, .lf (.b false)] else .e z))
        | none => none)
      | none => none) else none
    | _, _, _ => none
  | _ => none
theorem okR {v : AE} {u : Value} {b ok : Bool} (h : v.R σ u) : (bif ok then AV.tu [v, .lf (.b b)] else .e v).R σ (if ok = true then .tuple #[u, .bool b] else u) := by
  cases ok with
  | true => exact ⟨[u, .bool b], ⟨h, rfl, trivial⟩, rfl⟩
  | false => exact h
theorem evLookup_ok {t : TypeId} {m k : Option AV} {ok : Bool} {u v : Value} {H : Tr AO} {r : Sf} (hL : LiveAt σ H w) (hm : ∀ a, m = some a → a.R σ u) (hk : ∀ a, k = some a → a.R σ v) (h : evLookup P H t m k ok = some r) :
    SfOk σ nm w ((Instr.lookup t u v ok).run P w) r := by
  unfold evLookup at h
  split at h
  · rename_i kt et ht
    split at h
    · rename_i td q es k hkt hmo
      have hkv : k.R σ v := hk _ rfl
      cases hko : keyOk td k with
      | false => rw [hko] at h; cases h
      | true =>
        rw [hko] at h
        simp only [cond_true] at h
        have hK := key_is hko hkv
        obtain ⟨rs, hrs, hrun⟩ : ∃ rs : Array MapEntry, RM σ es rs.toList ∧ ∀ a, Instr.findNow td v rs.toList 0 = some a → (Instr.lookup t u v ok).run P w =
            ((match a with
              | some (_, v) => pure (v, true)
              | none => (do pure (← zeroValue et, false) : Sem (Value × Bool))).run P w).andThen fun x w => .ok (if ok = true then .tuple #[x.1, .bool x.2] else x.1) w := by
          rcases mapOf_ok hL hm hmo with ⟨-, rfl, rfl⟩ | ⟨n, B, rs, clk, -, hn, hB, rfl, h1, h2⟩
          · refine ⟨#[], trivial, fun a ha => ?_⟩
            unfold Instr.lookup
            simp only [Sem.run_bind, run_underlying ht, Result.andThen_ok, Sem.run_pure, MapKept.run_checkKey hkt hK _ 9999, MapKept.run_findKey hkt ha]
            rcases a with _ | ⟨i, x⟩ <;> cases ok <;> simp [Sem.run_bind] <;> (cases (zeroValue et).run P w <;> rfl)
          · refine ⟨rs, h2, fun a ha => ?_⟩
            unfold Instr.lookup
            simp only [Sem.run_bind, run_underlying ht, Result.andThen_ok, Sem.run_pure, MapKept.run_getObj_map h1, MapKept.run_checkKey hkt hK _ 9999, MapKept.run_findKey hkt ha]
            rcases a with _ | ⟨i, x⟩ <;> cases ok <;> simp [Sem.run_bind] <;> (cases (zeroValue et).run P w <;> rfl)
        split at h
        · rename_i i x hf
          obtain rfl := Option.some.inj h
          rcases mapFind_ok hko hkv hrs hf with ⟨h1, -⟩ | ⟨n, v', e, h1, -, -, h4, -, h6⟩
          · cases h1
          · simp only [Option.some.injEq, Prod.mk.injEq] at h1
            obtain ⟨rfl, rfl⟩ := h1
            exact ⟨_, (hrun _ h6).trans rfl, okR h4⟩
        · rename_i hf
          split at h
          · rename_i z hz
            obtain rfl := Option.some.inj h
            obtain ⟨zv, hz1, hz2⟩ := zAE_ok (σ := σ) hz
            rcases mapFind_ok hko hkv hrs hf with ⟨-, h2⟩ | ⟨n, v', e, h1, -⟩
            · exact ⟨_, (hrun _ h2).trans (by simp [Sem.run_bind, hz1]), okR hz2⟩
            · cases h1
          · cases h
        · cases h
    · cases h
  · cases h
noncomputable def listSet (v : AE) : List (AE × AE) → Nat → List (AE × AE)
  | [], _ => []
  | (k, _) :: l, 0 => (k, v) :: l
  | x :: l, n + 1 => x :: listSet v l n
noncomputable def listDel : List (AE × AE) → Nat → List (AE × AE)
  | [], _ => []
  | _ :: l, 0 => l
  | x :: l, n + 1 => x :: listDel l n
theorem RM_set {v : AE} {u kv : Value} (hv : v.R σ u) : ∀ {es : List (AE × AE)} {rs : List MapEntry} (n : Nat) (e : MapEntry), RM σ es rs → rs[n]? = some e → e.key = kv → RM σ (listSet v es n) (rs.modify n fun e => { e with key := kv, val := u })
  | [], [], n, e, h, hn, _ => by simp at hn
  | (k, _) :: es, x :: rs, 0, e, h, hn, hk => by
    simp only [List.getElem?_cons_zero, Option.some.injEq] at hn
    subst hn
    subst hk
    exact ⟨h.1, hv, h.2.2⟩
  | _ :: es, x :: rs, n + 1, e, h, hn, hk => by
    simp only [List.getElem?_cons_succ] at hn
    exact ⟨h.1, h.2.1, RM_set hv n e h.2.2 hn hk⟩
  | [], _ :: _, _, _, h, _, _ => h.elim
  | _ :: _, [], _, _, h, _, _ => h.elim
theorem RM_del : ∀ {es : List (AE × AE)} {rs : List MapEntry} (n : Nat), RM σ es rs → RM σ (listDel es n) (rs.eraseIdx n)
  | [], [], n, h => by simp [listDel, RM]
  | _ :: es, _ :: rs, 0, h => h.2.2
  | _ :: es, _ :: rs, n + 1, h => ⟨h.1, h.2.1, RM_del n h.2.2⟩
  | [], _ :: _, _, h => h.elim
  | _ :: _, [], _, h => h.elim
theorem RM_push {k v : AE} {e : MapEntry} (hk : k.R σ e.key) (hv : v.R σ e.val) : ∀ {es : List (AE × AE)} {rs : List MapEntry}, RM σ es rs → RM σ (es ++ [(k, v)]) (rs ++ [e])
  | [], [], h => ⟨hk, hv, trivial⟩
  | _ :: es, _ :: rs, h => ⟨h.1, h.2.1, RM_push hk hv h.2.2⟩
  | [], _ :: _, h => h.elim
  | _ :: _, [], h => h.elim
/-- A map's block turned. -/
theorem Ok.map (h : Ok w0 σ S w) {n : Nat} {B : Blk} {es es' : List (AE × AE)} {rs rs' : Array MapEntry} {clk clk' : Nat} {H' : Tr AO} (hn : S.H.get n = some (.mp es)) (hB : σ n = some B) (hb : w.heap[B.b]? = some (.map rs clk))
    (hu : Tr.upd (some (.mp es')) purse S.H n = some H') (hR : RM σ es' rs'.toList) :
    Ok w0 σ ⟨H', S.nx⟩ { w with heap := w.heap.setIfInBounds B.b (.map rs' clk') } ∧ Fr σ S w σ ⟨H', S.nx⟩ { w with heap := w.heap.setIfInBounds B.b (.map rs' clk') } :=
  h.turn hn hB hu ⟨rfl, rfl, rfl⟩ (by simp) (fun k hk => by simp [Array.getElem?_setIfInBounds, Ne.symm hk]) ⟨rs', clk', (MapKept.heap_set hb).1, hR⟩
noncomputable def evUpdate (P : Program) (S : St) (t : TypeId) (m k v : Option AV) : Option St := match P.underlying t with
  | some (.map kt _) => match P.underlying kt, mapOf S.H m, k, v with
    | some td, some (some n, es), some (.e (.lf k)), some (.e v) => bif keyOk td k then (match mapFind td k es 0 with
      | some (some (i, _)) => (match Tr.upd (some (.mp (listSet v es i))) purse S.H n with
        | some H' => some ⟨H', S.nx⟩
        | none => none)
      | some none => (match Tr.upd (some (.mp (es ++ [(.lf k, v)]))) purse S.H n with
        | some H' => some ⟨H', S.nx⟩
        | none => none)
      | none => none) else none
    | _, _, _, _ => none
  | _ => none
theorem evUpdate_ok {t : TypeId} {m k x : Option AV} {mv kv xv : Value} {T : St} (h : Ok w0 σ S w) (hm : ∀ a, m = some a → a.R σ mv) (hk : ∀ a, k = some a → a.R σ kv) (hx : ∀ a, x = some a → a.R σ xv) (hs : evUpdate P S t m k x = some T) :
    ∃ w', (Instr.mapUpdate t mv kv xv).run P w = .ok () w' ∧ Ok w0 σ T w' ∧ Fr σ S w σ T w' := by
  unfold evUpdate at hs
  split at hs
  · rename_i kt et ht
    split at hs
    · rename_i td n es k v hkt hmo
      have hkv : k.R σ kv := hk _ rfl
      have hxv : v.R σ xv := hx _ rfl
      cases hko : keyOk td k with
      | false => rw [hko] at hs; cases hs
      | true =>
        rw [hko] at hs
        simp only [cond_true] at hs
        have hK := key_is hko hkv
        rcases mapOf_ok h.liveAt hm hmo with ⟨hq, -⟩ | ⟨n', B, rs, clk, hq, hn, hB, rfl, h1, h2⟩
        · cases hq
        · obtain rfl := Option.some.inj hq
          split at hs
          · rename_i i x' hf
            rcases mapFind_ok hko hkv h2 hf with ⟨h3, -⟩ | ⟨j, v', e, h3, h4, -, -, h5, h6⟩
            · cases h3
            · simp only [Option.some.injEq, Prod.mk.injEq] at h3
              obtain ⟨rfl, rfl⟩ := h3
              cases hu : Tr.upd (some (.mp (listSet v es (0 + j)))) purse S.H n with
              | none => rw [hu] at hs; cases hs
              | some H' =>
                rw [hu] at hs
                obtain rfl := Option.some.inj hs
                have hmod : RM σ (listSet v es (0 + j)) (rs.modify (0 + j) fun e => { e with key := kv, val := xv }).toList := by
                  rw [Array.toList_modify, Nat.zero_add]
                  exact RM_set hxv j e h2 h4 h5
                obtain ⟨r1, r2⟩ := h.map (clk' := clk) hn hB h1 hu hmod
                refine ⟨_, ?_, r1, r2⟩
                have hkey : ((rs[0 + j]?).map (·.key)).getD kv = kv := by
                  rw [Nat.zero_add, ← Array.getElem?_toList, h4]
                  exact h5
                unfold Instr.mapUpdate
                simp only [Sem.run_bind, run_underlying ht, Result.andThen_ok, MapKept.run_getObj_map h1, MapKept.run_checkKey hkt hK _ 9999, MapKept.run_findKey hkt h6, hkey, MapKept.run_keyThatStays hK, MapKept.run_setObj_map _ h1]
          · rename_i hf
            rcases mapFind_ok hko hkv h2 hf with ⟨-, h3⟩ | ⟨j, v', e, h3, -⟩
            · cases hu : Tr.upd (some (.mp (es ++ [(AE.lf k, v)]))) purse S.H n with
              | none => rw [hu] at hs; cases hs
              | some H' =>
                rw [hu] at hs
                obtain rfl := Option.some.inj hs
                have hpush : RM σ (es ++ [(AE.lf k, v)]) (rs.push { key := kv, val := xv, born := clk }).toList := by
                  rw [Array.toList_push]
                  exact RM_push (k := .lf k) (e := { key := kv, val := xv, born := clk }) hkv hxv h2
                obtain ⟨r1, r2⟩ := h.map (clk' := clk + 1) hn hB h1 hu hpush
                refine ⟨_, ?_, r1, r2⟩
                unfold Instr.mapUpdate
                simp only [Sem.run_bind, run_underlying ht, Result.andThen_ok, MapKept.run_getObj_map h1, MapKept.run_checkKey hkt hK _ 9999, MapKept.run_findKey hkt h3, MapKept.run_setObj_map _ h1]
            · cases h3
          · cases hs
    · cases hs
  · cases hs
noncomputable def evDelete (P : Program) (S : St) (t : TypeId) (m k : Option AV) : Option St := match P.underlying t with
  | some (.map kt _) => match P.underlying kt, mapOf S.H m, k with
    | some td, some (some n, es), some (.e (.lf k)) => bif keyOk td k then (match mapFind td k es 0 with
      | some (some (i, _)) => (match Tr.upd (some (.mp (listDel es i))) purse S.H n with
        | some H' => some ⟨H', S.nx⟩
        | none => none)
      | some none => (match Tr.upd (some (.mp es)) purse S.H n with
        | some H' => some ⟨H', S.nx⟩
        | none => none)
      | none => none) else none
    | _, _, _ => none
  | _ => none
theorem evDelete_ok {t t2 ty : TypeId} {m k : Option AV} {mv kv : Value} {T : St} (h : Ok w0 σ S w) (hm : ∀ a, m = some a → a.R σ mv) (hk : ∀ a, k = some a → a.R σ kv) (hs : evDelete P S t m k = some T) :
    ∃ w', (Builtin.delete_ #[t, t2] ty #[mv, kv]).run P w = .ok (.tuple #[]) w' ∧ Ok w0 σ T w' ∧ Fr σ S w σ T w' := by
  unfold evDelete at hs
  split at hs
  · rename_i kt et ht
    split at hs
    · rename_i td n es k hkt hmo
      have hkv : k.R σ kv := hk _ rfl
      cases hko : keyOk td k with
      | false => rw [hko] at hs; cases hs
      | true =>
        rw [hko] at hs
        simp only [cond_true] at hs
        have hK := key_is hko hkv
        rcases mapOf_ok h.liveAt hm hmo with ⟨hq, -⟩ | ⟨n', B, rs, clk, hq, hn, hB, rfl, h1, h2⟩
        · cases hq
        · obtain rfl := Option.some.inj hq
          have go : ∀ (es' : List (AE × AE)) (rs' : Array MapEntry) (a : Option (Nat × Value)), Instr.findNow td kv rs.toList 0 = some a → (match a with
              | some (i, _) => rs.eraseIdxIfInBounds i
              | none => rs) = rs' → RM σ es' rs'.toList → (match Tr.upd (some (.mp es')) purse S.H n with
              | some H' => some ⟨H', S.nx⟩
              | none => (none : Option St)) = some T → ∃ w', (Builtin.delete_ #[t, t2] ty #[.map (some B.b), kv]).run P w = .ok (.tuple #[]) w' ∧ Ok w0 σ T w' ∧ Fr σ S w σ T w' := fun es' rs' a ha hrs hR hs => by
            cases hu : Tr.upd (some (.mp es')) purse S.H n with
            | none => rw [hu] at hs; cases hs
            | some H' =>
              rw [hu] at hs
              obtain rfl := Option.some.inj hs
              obtain ⟨r1, r2⟩ := h.map (clk' := clk) hn hB h1 hu hR
              refine ⟨_, ?_, r1, r2⟩
              unfold Builtin.delete_
              subst hrs
              rcases a with _ | ⟨i, x⟩ <;> simp [Sem.run_bind, run_underlying ht, Result.andThen_ok, MapKept.run_getObj_map h1, MapKept.run_checkKey hkt hK _ 9999, MapKept.run_findKey hkt ha, MapKept.run_setObj_map _ h1]
          split at hs
          · rename_i i x' hf
            rcases mapFind_ok hko hkv h2 hf with ⟨h3, -⟩ | ⟨j, v', e, h3, h4, -, -, h5, h6⟩
            · cases h3
            · simp only [Option.some.injEq, Prod.mk.injEq] at h3
              obtain ⟨rfl, rfl⟩ := h3
              refine go _ _ _ h6 rfl ?_ hs
              have hsub : (rs.eraseIdxIfInBounds (0 + j)).toList = rs.toList.eraseIdx j := by
                rw [Nat.zero_add]
                unfold Array.eraseIdxIfInBounds
                split
                · simp
                · rename_i hb
                  rw [List.eraseIdx_of_length_le (by simpa using hb)]
              rw [hsub, Nat.zero_add]
              exact RM_del j h2
          · rename_i hf
            rcases mapFind_ok hko hkv h2 hf with ⟨-, h3⟩ | ⟨j, v', e, h3, -⟩
            · exact go _ _ _ h3 rfl h2 hs
            · cases h3
          · cases hs
    · cases hs
  · cases hs
end
end Go.Proofs.YtffccgnhdpjlaaaGreatDoor.Ev
