/- Maps whose keys are structs, copies of nothing, strings gone through, by the runner. -/
import Derived.Test.YtffccgnhdpjlaaaGreatDoorEvY
import Derived.RegionTactic
import Derived.Test.YtffccgnhdpjlaaaGreatDoorEvS
set_option linter.unusedVariables false
set_option linter.unusedSimpArgs false
namespace Go.Proofs.YtffccgnhdpjlaaaGreatDoor.Ev
open Go Go.RowKit
section
variable {P : Program} {σ : Sg} {w0 w : World} {S : St} {nm : Nat} {H : Tr AO}
/-! ### keys that are structs: compared by the machine's own rule -/
noncomputable def mapFindA (P : Program) (kt : TypeId) (k : Value) : List (AE × AE) → Nat → Option (Option (Nat × AE))
  | [], _ => some none
  | (x, v) :: l, i => (match concE x with
    | some xv => (match pureRun P (Op.equal kt k xv) with
      | some true => bif Instr.sameBits 10000 xv k then some (some (i, v)) else none
      | some false => mapFindA P kt k l (i + 1)
      | none => none)
    | none => none)
theorem mapFindA_ok {kt : TypeId} {kv : Value} : ∀ {es : List (AE × AE)} {rs : List MapEntry} {i : Nat} {r : Option (Nat × AE)}, RM σ es rs → mapFindA P kt kv es i = some r →
    (r = none ∧ (Instr.findAsking kt kv rs i).run P w = .ok none w) ∨ ∃ n v e, r = some (i + n, v) ∧ rs[n]? = some e ∧ v.R σ e.val ∧ Instr.sameBits 10000 e.key kv = true ∧ (Instr.findAsking kt kv rs i).run P w = .ok (some (i + n, e.val)) w
  | [], [], i, r, _, h => by
    obtain rfl := Option.some.inj h
    exact Or.inl ⟨rfl, by simp [Instr.findAsking]⟩
  | (x, v) :: es, e :: rs, i, r, hm, h => by
    unfold mapFindA at h
    cases hx : concE x with
    | none => rw [hx] at h; cases h
    | some xv =>
      rw [hx] at h
      dsimp only at h
      have hk := concE_eq hx hm.1
      cases hp : pureRun P (Op.equal kt kv xv) with
      | none => rw [hp] at h; cases h
      | some b =>
        rw [hp] at h
        have hr := pureRun_ok w hp
        rw [← hk] at hr
        cases b with
        | true =>
          dsimp only at h
          cases hs : Instr.sameBits 10000 xv kv with
          | false => rw [hs] at h; cases h
          | true =>
            rw [hs, cond_true] at h
            obtain rfl := Option.some.inj h
            refine Or.inr ⟨0, v, e, rfl, rfl, hm.2.1, by rw [hk]; exact hs, ?_⟩
            simp [Instr.findAsking, hr]
        | false =>
          dsimp only at h
          rcases mapFindA_ok hm.2.2 h with ⟨h1, h2⟩ | ⟨n, v', e', h1, h2, h3, h4, h5⟩
          · exact Or.inl ⟨h1, by simp [Instr.findAsking, hr, h2]⟩
          · refine Or.inr ⟨n + 1, v', e', ?_, h2, h3, h4, ?_⟩
            · rw [h1]; congr 2; omega
            · simp only [Instr.findAsking, Sem.run_bind, hr, Result.andThen_ok, Bool.false_eq_true, if_false, h5]
              congr 3
              omega
  | [], _ :: _, _, _, hm, _ => hm.elim
  | _ :: _, [], _, _, hm, _ => hm.elim
/-- The key is one, and is told by asking. -/
noncomputable def keyFit (P : Program) (kt : TypeId) (k : Value) (es : List (AE × AE)) : Bool := match P.underlying kt with
  | some td => (match pureRun P (Instr.checkKey true 10000 kt k), pureRun P (Instr.checkKey false 10000 kt k) with
    | some (), some () => (match es with
      | [] => true
      | (x, _) :: _ => (match concE x with
        | some xv => (Instr.sameNow td k xv).isNone
        | none => false))
    | _, _ => false)
  | none => false
theorem keyFit_ok {kt : TypeId} {kv : Value} {es : List (AE × AE)} {rs : List MapEntry} (hm : RM σ es rs) (h : keyFit P kt kv es = true) : (∀ b w, (Instr.checkKey b 10000 kt kv).run P w = .ok () w) ∧ ∀ w, (Instr.findKey kt kv rs).run P w = (Instr.findAsking kt kv rs 0).run P w := by
  unfold keyFit at h
  cases hu : P.underlying kt with
  | none => rw [hu] at h; cases h
  | some td =>
    rw [hu] at h
    dsimp only at h
    split at h
    · rename_i h1 h2
      refine ⟨fun b w => by cases b; exact pureRun_ok w h2; exact pureRun_ok w h1, fun w => ?_⟩
      unfold Instr.findKey
      rw [Sem.run_bind, run_underlying hu, Result.andThen_ok]
      cases es with
      | nil =>
        cases rs with
        | nil => rfl
        | cons _ _ => exact hm.elim
      | cons p es =>
        obtain ⟨x, v⟩ := p
        cases rs with
        | nil => exact hm.elim
        | cons e rs =>
          dsimp only at h
          cases hx : concE x with
          | none => rw [hx] at h; cases h
          | some xv =>
            rw [hx] at h
            dsimp only at h
            have hk := concE_eq hx hm.1
            have : Instr.sameNow td kv e.key = none := by rw [hk]; exact Option.isNone_iff_eq_none.1 h
            simp [Instr.findNow, this]
    · cases h
noncomputable def evLookupA (P : Program) (H : Tr AO) (t : TypeId) (m k : Option AV) (ok : Bool) : Option Sf := match P.underlying t with
  | some (.map kt et) => (match mapOf H m, k with
    | some (_, es), some (.e k) => (match concE k with
      | some kv => bif keyFit P kt kv es then (match mapFindA P kt kv es 0 with
        | some (some (_, v)) => some (.v (bif ok then .tu [v, .lf (.b true)] else .e v))
        | some none => (match zAE P et with
          | some z => some (.v (bif ok then .tu [z, .lf (.b false)] else .e z))
          | none => none)
        | none => none) else none
      | none => none)
    | _, _ => none)
  | _ => none
theorem evLookupA_ok {t : TypeId} {m k : Option AV} {ok : Bool} {u v : Value} {r : Sf} (hL : LiveAt σ H w) (hm : ∀ a, m = some a → a.R σ u) (hk : ∀ a, k = some a → a.R σ v) (h : evLookupA P H t m k ok = some r) :
    SfOk σ nm w ((Instr.lookup t u v ok).run P w) r := by
  unfold evLookupA at h
  split at h
  · rename_i kt et ht
    split at h
    · rename_i q es k hmo
      cases hc : concE k with
      | none => rw [hc] at h; cases h
      | some kv =>
        rw [hc] at h
        dsimp only at h
        obtain rfl : v = kv := concE_eq hc (hk _ rfl)
        cases hf : keyFit P kt v es with
        | false => rw [hf] at h; cases h
        | true =>
          rw [hf, cond_true] at h
          obtain ⟨rs, hrs, hrun⟩ : ∃ rs : Array MapEntry, RM σ es rs.toList ∧ ∀ a, (Instr.findAsking kt v rs.toList 0).run P w = .ok a w → (Instr.lookup t u v ok).run P w =
              ((match a with
                | some (_, v) => pure (v, true)
                | none => (do pure (← zeroValue et, false) : Sem (Value × Bool))).run P w).andThen fun x w => .ok (if ok = true then .tuple #[x.1, .bool x.2] else x.1) w := by
            rcases mapOf_ok hL hm hmo with ⟨-, rfl, rfl⟩ | ⟨n, B, rs, clk, -, hn, hB, rfl, h1, h2⟩
            · obtain ⟨k1, k2⟩ := keyFit_ok (es := []) (rs := []) (show RM σ [] [] from trivial) hf
              refine ⟨#[], trivial, fun a ha => ?_⟩
              have k3 := k2 w
              rw [ha] at k3
              unfold Instr.lookup
              simp only [Sem.run_bind, run_underlying ht, Result.andThen_ok, Sem.run_pure, k1]
              erw [k3]
              rcases a with _ | ⟨i, x⟩ <;> cases ok <;> simp [Sem.run_bind] <;> (cases (zeroValue et).run P w <;> rfl)
            · obtain ⟨k1, k2⟩ := keyFit_ok h2 hf
              refine ⟨rs, h2, fun a ha => ?_⟩
              have k3 := k2 w
              rw [ha] at k3
              unfold Instr.lookup
              simp only [Sem.run_bind, run_underlying ht, Result.andThen_ok, Sem.run_pure, MapKept.run_getObj_map h1, k1, k3]
              rcases a with _ | ⟨i, x⟩ <;> cases ok <;> simp [Sem.run_bind] <;> (cases (zeroValue et).run P w <;> rfl)
          split at h
          · rename_i i x hf
            obtain rfl := Option.some.inj h
            rcases mapFindA_ok (w := w) hrs hf with ⟨h1, -⟩ | ⟨n, v', e, h1, -, h4, -, h6⟩
            · cases h1
            · simp only [Option.some.injEq, Prod.mk.injEq] at h1
              obtain ⟨rfl, rfl⟩ := h1
              exact ⟨_, (hrun _ h6).trans rfl, okR h4⟩
          · rename_i hf
            split at h
            · rename_i z hz
              obtain rfl := Option.some.inj h
              obtain ⟨zv, hz1, hz2⟩ := zAE_ok (σ := σ) hz
              rcases mapFindA_ok (w := w) hrs hf with ⟨-, h2⟩ | ⟨n, v', e, h1, -⟩
              · exact ⟨_, (hrun _ h2).trans (by simp [Sem.run_bind, hz1]), okR hz2⟩
              · cases h1
            · cases h
          · cases h
    · cases h
  · cases h
noncomputable def listPut (k v : AE) : List (AE × AE) → Nat → List (AE × AE)
  | [], _ => []
  | _ :: l, 0 => (k, v) :: l
  | x :: l, n + 1 => x :: listPut k v l n
theorem RM_put {k v : AE} {u kv : Value} (hk : k.R σ kv) (hv : v.R σ u) : ∀ {es : List (AE × AE)} {rs : List MapEntry} (n : Nat) (e : MapEntry), RM σ es rs → rs[n]? = some e → RM σ (listPut k v es n) (rs.modify n fun e => { e with key := kv, val := u })
  | [], [], n, e, h, hn => by simp at hn
  | _ :: es, x :: rs, 0, e, h, hn => ⟨hk, hv, h.2.2⟩
  | _ :: es, x :: rs, n + 1, e, h, hn => by
    simp only [List.getElem?_cons_succ] at hn
    exact ⟨h.1, h.2.1, RM_put hk hv n e h.2.2 hn⟩
  | [], _ :: _, _, _, h, _ => h.elim
  | _ :: _, [], _, _, h, _ => h.elim
noncomputable def evUpdateA (P : Program) (S : St) (t : TypeId) (m k v : Option AV) : Option St := match P.underlying t with
  | some (.map kt _) => (match mapOf S.H m, k, v with
    | some (some n, es), some (.e k), some (.e v) => (match concE k with
      | some kv => bif keyFit P kt kv es then (match mapFindA P kt kv es 0 with
        | some (some (i, _)) => (match Tr.upd (some (.mp (listPut k v es i))) purse S.H n with
          | some H' => some ⟨H', S.nx⟩
          | none => none)
        | some none => (match Tr.upd (some (.mp (es ++ [(k, v)]))) purse S.H n with
          | some H' => some ⟨H', S.nx⟩
          | none => none)
        | none => none) else none
      | none => none)
    | _, _, _ => none)
  | _ => none
theorem evUpdateA_ok {t : TypeId} {m k x : Option AV} {mv kv xv : Value} {T : St} (h : Ok w0 σ S w) (hm : ∀ a, m = some a → a.R σ mv) (hk : ∀ a, k = some a → a.R σ kv) (hx : ∀ a, x = some a → a.R σ xv) (hs : evUpdateA P S t m k x = some T) :
    ∃ w', (Instr.mapUpdate t mv kv xv).run P w = .ok () w' ∧ Ok w0 σ T w' ∧ Fr σ S w σ T w' := by
  unfold evUpdateA at hs
  split at hs
  · rename_i kt et ht
    split at hs
    · rename_i n es k v hmo
      have hxv : v.R σ xv := hx _ rfl
      have hkr : k.R σ kv := hk _ rfl
      cases hc : concE k with
      | none => rw [hc] at hs; cases hs
      | some kc =>
        rw [hc] at hs
        dsimp only at hs
        obtain rfl : kv = kc := concE_eq hc hkr
        cases hf : keyFit P kt kv es with
        | false => rw [hf] at hs; cases hs
        | true =>
          rw [hf, cond_true] at hs
          rcases mapOf_ok h.liveAt hm hmo with ⟨hq, -⟩ | ⟨n', B, rs, clk, hq, hn, hB, rfl, h1, h2⟩
          · cases hq
          · obtain rfl := Option.some.inj hq
            obtain ⟨k1, k2⟩ := keyFit_ok h2 hf
            have k3 := k2 w
            split at hs
            · rename_i i x' hfi
              rcases mapFindA_ok (w := w) h2 hfi with ⟨h3, -⟩ | ⟨j, v', e, h3, h4, -, h5, h6⟩
              · cases h3
              · simp only [Option.some.injEq, Prod.mk.injEq] at h3
                obtain ⟨rfl, rfl⟩ := h3
                rw [h6] at k3
                cases hu : Tr.upd (some (.mp (listPut k v es (0 + j)))) purse S.H n with
                | none => rw [hu] at hs; cases hs
                | some H' =>
                  rw [hu] at hs
                  obtain rfl := Option.some.inj hs
                  have hmod : RM σ (listPut k v es (0 + j)) (rs.modify (0 + j) fun e => { e with key := kv, val := xv }).toList := by
                    rw [Array.toList_modify, Nat.zero_add]
                    exact RM_put hkr hxv j e h2 h4
                  obtain ⟨r1, r2⟩ := h.map (clk' := clk) hn hB h1 hu hmod
                  refine ⟨_, ?_, r1, r2⟩
                  have hkey : ((rs[0 + j]?).map (·.key)).getD kv = e.key := by
                    rw [Nat.zero_add, ← Array.getElem?_toList, h4]
                    rfl
                  have hst : (Instr.keyThatStays e.key kv).run P w = .ok kv w := by
                    unfold Instr.keyThatStays
                    rw [if_pos h5]
                    rfl
                  unfold Instr.mapUpdate
                  simp only [Sem.run_bind, run_underlying ht, Result.andThen_ok, MapKept.run_getObj_map h1, k1, k3, hkey, hst, MapKept.run_setObj_map _ h1]
            · rename_i hfi
              rcases mapFindA_ok (w := w) h2 hfi with ⟨-, h3⟩ | ⟨j, v', e, h3, -⟩
              · rw [h3] at k3
                cases hu : Tr.upd (some (.mp (es ++ [(k, v)]))) purse S.H n with
                | none => rw [hu] at hs; cases hs
                | some H' =>
                  rw [hu] at hs
                  obtain rfl := Option.some.inj hs
                  have hpush : RM σ (es ++ [(k, v)]) (rs.push { key := kv, val := xv, born := clk }).toList := by
                    rw [Array.toList_push]
                    exact RM_push (e := { key := kv, val := xv, born := clk }) hkr hxv h2
                  obtain ⟨r1, r2⟩ := h.map (clk' := clk + 1) hn hB h1 hu hpush
                  refine ⟨_, ?_, r1, r2⟩
                  unfold Instr.mapUpdate
                  simp only [Sem.run_bind, run_underlying ht, Result.andThen_ok, MapKept.run_getObj_map h1, k1, k3, MapKept.run_setObj_map _ h1]
              · cases h3
            · cases hs
    · cases hs
  · cases hs
noncomputable def evUpd (P : Program) (S : St) (t : TypeId) (m k v : Option AV) : Option St := match evUpdate P S t m k v with
  | some T => some T
  | none => evUpdateA P S t m k v
theorem evUpd_ok {t : TypeId} {m k x : Option AV} {mv kv xv : Value} {T : St} (h : Ok w0 σ S w) (hm : ∀ a, m = some a → a.R σ mv) (hk : ∀ a, k = some a → a.R σ kv) (hx : ∀ a, x = some a → a.R σ xv) (hs : evUpd P S t m k x = some T) :
    ∃ w', (Instr.mapUpdate t mv kv xv).run P w = .ok () w' ∧ Ok w0 σ T w' ∧ Fr σ S w σ T w' := by
  unfold evUpd at hs
  cases hq : evUpdate P S t m k x with
  | some T' => rw [hq] at hs; obtain rfl := Option.some.inj hs; exact evUpdate_ok h hm hk hx hq
  | none => rw [hq] at hs; exact evUpdateA_ok h hm hk hx hs
/-! ### strings gone through, of small letters' kind alone -/
noncomputable def evRangeS (P : Program) (t : TypeId) (x : Option AV) : Option Sf := match P.underlying t, x with
  | some .string, some (.e (.lf (.s l))) => some (.nw .p (.si l 0))
  | _, _ => none
theorem evRangeS_ok {t : TypeId} {x : Option AV} {v : Value} {r : Sf} (hx : ∀ a, x = some a → a.R σ v) (h : evRangeS P t x = some r) : SfOk σ nm w ((Instr.range t v).run P w) r := by
  unfold evRangeS at h
  split at h
  · rename_i l ht
    obtain ⟨rfl, -⟩ := hx _ rfl
    obtain rfl := Option.some.inj h
    refine ⟨.pointer (some ⟨w.heap.size, 0, none⟩), { w with heap := w.heap.push (.stringIter (bs l) 0) }, .stringIter (bs l) 0, 0, ?_, rfl, Beside.refl w, fun τ hs hτ => ⟨⟨_, ⟨_, hτ, rfl⟩, rfl⟩, rfl, push_new rfl⟩⟩
    simp [Instr.range, run_underlying ht]
  · cases h
theorem decode_low {l : List Nat} {pos c : Nat} (h : l[pos]? = some c) (hc : c < 128) : Utf8.decode (bs l) pos = (c, 1) := by
  have hlt : pos < l.length := (List.getElem?_eq_some_iff.1 h).1
  have hg : ((bs l).get! pos).toNat = c := by
    unfold bs
    have : (⟨(l.map UInt8.ofNat).toArray⟩ : ByteArray).get! pos = UInt8.ofNat c := by
      show ((l.map UInt8.ofNat).toArray)[pos]! = _
      simp [List.getElem!_eq_getElem?_getD, h]
    rw [this]
    simp
    omega
  unfold Utf8.decode
  simp only [Nat.add_zero, hg]
  rw [if_pos hc]
noncomputable def evNextS (S : St) (x : Option AV) : Option (AV × St) := match x with
  | some (.e (.lf (.p (some (n, 0))))) => (match S.H.get n with
    | some (.si l pos) => bif Nat.blt pos l.length then (match l[pos]? with
        | some c => bif Nat.blt c 128 then (match Tr.upd (some (.si l (pos + 1))) purse S.H n with
          | some H' => some (.tu [.lf (.b true), .lf (.i .i64 (Int.ofNat pos)), .lf (.i .i32 (Int.ofNat c))], ⟨H', S.nx⟩)
          | none => none) else none
        | none => none) else some (.tu [.lf (.b false)], S)
    | _ => none)
  | _ => none
theorem evNextS_ok {ty : TypeId} {x : Option AV} {v : Value} {y : AV} {T : St} (h : Ok w0 σ S w) (hx : ∀ a, x = some a → a.R σ v) (hs : evNextS S x = some (y, T)) :
    ∃ r w', (Instr.next v true ty).run P w = .ok r w' ∧ y.R σ r ∧ Ok w0 σ T w' ∧ Fr σ S w σ T w' := by
  unfold evNextS at hs
  split at hs
  · rename_i n
    obtain ⟨u, ⟨B, hB, rfl⟩, rfl⟩ := hx _ rfl
    split at hs
    · rename_i l pos hn
      obtain ⟨C, hC, c2, c3, k1, k2⟩ := h.live n _ hn
      obtain rfl := Option.some.inj (hB.symm.trans hC)
      have hg : (getObj B.b).run P w = .ok (.stringIter (bs l) pos) w := by simp [getObj, Sem.run, k2]
      cases hc : Nat.blt pos l.length with
      | false =>
        rw [hc, cond_false] at hs
        simp only [Option.some.injEq, Prod.mk.injEq] at hs
        obtain ⟨rfl, rfl⟩ := hs
        have hge : ¬ pos < (bs l).size := by
          rw [bs_size]
          intro hlt
          have : Nat.blt pos l.length = true := Nat.ble_eq_true_of_le hlt
          rw [hc] at this
          cases this
        refine ⟨.tuple #[.bool false], w, ?_, ⟨[.bool false], ⟨rfl, trivial⟩, rfl⟩, h, Fr.refl ..⟩
        simp [Instr.next, k1, hg, hge]
      | true =>
        rw [hc, cond_true] at hs
        have hlt : pos < l.length := Nat.le_of_ble_eq_true hc
        cases hl : l[pos]? with
        | none => rw [hl] at hs; cases hs
        | some c =>
          rw [hl] at hs
          dsimp only at hs
          cases hcl : Nat.blt c 128 with
          | false => rw [hcl] at hs; cases hs
          | true =>
            rw [hcl, cond_true] at hs
            have hc128 : c < 128 := Nat.le_of_ble_eq_true hcl
            cases hu : Tr.upd (some (.si l (pos + 1))) purse S.H n with
            | none => rw [hu] at hs; cases hs
            | some H' =>
              rw [hu] at hs
              simp only [Option.some.injEq, Prod.mk.injEq] at hs
              obtain ⟨rfl, rfl⟩ := hs
              have hd := decode_low hl hc128
              obtain ⟨r1, r2⟩ := h.turn (w' := { w with heap := w.heap.setIfInBounds B.b (.stringIter (bs l) (pos + 1)) }) hn hB hu ⟨rfl, rfl, rfl⟩ (by simp) (fun k hk => by simp [Array.getElem?_setIfInBounds, Ne.symm hk]) ⟨k1, by simp [c3]⟩
              refine ⟨.tuple #[.bool true, .int .i64 (Int.ofNat pos), .int .i32 (Int.ofNat c)], _, ?_, ⟨[_, _, _], ⟨rfl, rfl, rfl, trivial⟩, rfl⟩, r1, r2⟩
              have hset : (setObj B.b (.stringIter (bs l) (pos + 1))).run P w = .ok () { w with heap := w.heap.setIfInBounds B.b (.stringIter (bs l) (pos + 1)) } := by simp [setObj, Sem.run, k2]
              have hlt' : pos < (bs l).size := by rw [bs_size]; exact hlt
              simp [Instr.next, k1, hg, hlt', hd, hset, goInt]
    · cases hs
  · cases hs
/-! ### what holds nothing -/
noncomputable def evCap0 (P : Program) (ts : List TypeId) (x : Option AV) : Option Sf := match ts, x with
  | [t], some (.e (.lf (.sl none _ _))) => (match P.underlying t with
    | some (.slice _) => some (.v (.e (.lf (.i .i64 0))))
    | _ => none)
  | [t], some (.e (.lf (.sl (some _) len _))) => (match P.underlying t with
    | some (.slice _) => bif Nat.ble 1 len then some (.v (.e (.lf (.pos .i64)))) else none
    | _ => none)
  | _, _ => none
theorem evCap0_ok {ats : Array TypeId} {ty : TypeId} {x : Option AV} {v : Value} {r : Sf} (hx : ∀ a, x = some a → a.R σ v) (h : evCap0 P ats.toList x = some r) : ∃ t, ats = #[t] ∧ SfOk σ nm w ((Builtin.cap_ #[t] ty #[v]).run P w) r := by
  unfold evCap0 at h
  split at h
  · rename_i t _ _ ha
    obtain ⟨rfl, -⟩ := hx _ rfl
    split at h
    · rename_i e hu
      obtain rfl := Option.some.inj h
      refine ⟨t, by apply Array.ext'; simpa using ha, .int .i64 0, ?_, rfl⟩
      simp [Builtin.cap_, run_underlying hu, goInt]
    · cases h
  · rename_i t q len sz ha
    obtain ⟨B, hB, hv⟩ := hx _ rfl
    split at h
    · rename_i e hu
      cases hb : Nat.ble 1 len with
      | false => rw [hb] at h; cases h
      | true =>
        rw [hb, cond_true] at h
        obtain rfl := Option.some.inj h
        have h1 := Nat.le_of_ble_eq_true hb
        rcases hv with ⟨c, rfl, -, h2⟩ | ⟨h0, -⟩
        · refine ⟨t, by apply Array.ext'; simpa using ha, .int .i64 (c : Int), ?_, (c : Int), rfl, by omega⟩
          simp [Builtin.cap_, run_underlying hu, goInt]
        · omega
    · cases h
  · cases h
/-- A number above nought is no nought. -/
noncomputable def evPos (op : BinOp) (x y : Option AV) : Option Sf := match x, y with
  | some (.e (.lf (.pos k))), some (.e (.lf (.i k' (.ofNat 0)))) => bif decide (k = k') then (match op with
    | .eql => some (.v (.e (.lf (.b false))))
    | .neq => some (.v (.e (.lf (.b true))))
    | _ => none) else none
  | _, _ => none
theorem evPos_ok {op : BinOp} {t : TypeId} {x y : Operand} {ρ : Operand → Option AV} {ev : Operand → Value} (hA : HA σ ρ ev) {r : Sf} (h : evPos op (ρ x) (ρ y) = some r) :
    SfOk σ nm w ((do eqGuard op t x y (ev x) (ev y); binOp op t (ev x) (ev y) : Sem Value).run P w) r := by
  have hx := hA x
  have hy := hA y
  unfold evPos at h
  split at h
  · rename_i k k' h1 h2
    obtain ⟨n, e1, hn⟩ : ∃ n : Int, ev x = .int k n ∧ 0 < n := hx _ h1
    have e2 : ev y = .int k' 0 := hy _ h2
    cases hk : decide (k = k') with
    | false => rw [hk] at h; cases h
    | true =>
      rw [hk, cond_true] at h
      obtain rfl := of_decide_eq_true hk
      rw [e1, e2]
      have hg : ∀ op, (eqGuard op t x y (.int k n) (.int k 0)).run P w = .ok () w := fun op => by unfold eqGuard; cases op <;> rfl
      rw [Sem.run_bind, hg, Result.andThen_ok]
      have e : (n == 0) = false := by simp; omega
      have e' : (n != 0) = true := by simp; omega
      split at h
      · obtain rfl := Option.some.inj h
        exact ⟨.bool false, by simp only [binOp, ne_eq, not_true, if_false, Op.intCmp, e]; rfl, rfl⟩
      · obtain rfl := Option.some.inj h
        exact ⟨.bool true, by simp only [binOp, ne_eq, not_true, if_false, Op.intCmp, e']; rfl, rfl⟩
      · cases h
  · cases h
noncomputable def evCopy0 (P : Program) (S : St) (t : TypeId) (a b : Option AV) : Option (AV × St) := match P.underlying t, a, b with
  | some (.slice e), some (.e (.lf (.sl _ _ _))), some (.e (.lf (.sl none _ _))) => (match P.info? e with
    | some _ => some (.e (.lf (.i .i64 0)), S)
    | none => none)
  | _, _, _ => none
theorem evCopy0_ok {t it ty : TypeId} {a b : Option AV} {u v : Value} {x : AV} {T : St} (ha : ∀ y, a = some y → y.R σ u) (hb : ∀ y, b = some y → y.R σ v) (he : evCopy0 P S t a b = some (x, T)) :
    (∃ r, (Builtin.copy_ #[t, it] ty #[u, v]).run P w = .ok r w ∧ x.R σ r) ∧ True ∧ T = S := by
  unfold evCopy0 at he
  split at he
  · rename_i e o len sz _ _ ht
    obtain ⟨rfl, -⟩ := hb _ rfl
    have hu : ∃ d n c, u = .slice d n c := by
      cases o with
      | none => obtain ⟨rfl, -⟩ := ha _ rfl; exact ⟨_, _, _, rfl⟩
      | some q =>
        obtain ⟨B, -, ⟨c, rfl, -⟩ | ⟨-, d, rfl⟩⟩ := ha _ rfl
        · exact ⟨_, _, _, rfl⟩
        · exact ⟨_, _, _, rfl⟩
    obtain ⟨d, n, c, rfl⟩ := hu
    cases hie : P.info? e with
    | none => rw [hie] at he; cases he
    | some ie =>
      rw [hie] at he
      simp only [Option.some.injEq, Prod.mk.injEq] at he
      obtain ⟨rfl, rfl⟩ := he
      refine ⟨⟨.int .i64 0, ?_, rfl⟩, trivial, rfl⟩
      cases d <;> simp [Builtin.copy_, run_underlying ht, sizeOf, typeInfo, hie, Builtin.lenOf, Builtin.firstCells, loadCells, loadCellsFrom, storeCells, goInt]
  · cases he
end
end Go.Proofs.YtffccgnhdpjlaaaGreatDoor.Ev
