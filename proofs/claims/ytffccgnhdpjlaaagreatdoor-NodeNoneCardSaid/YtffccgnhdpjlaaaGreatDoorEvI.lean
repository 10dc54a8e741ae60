/- What an operation comes to that reads, or makes a block: all of them in one. -/
import Derived.Test.YtffccgnhdpjlaaaGreatDoorEvH
import Derived.Laws.BitsLemmas
import Derived.Laws.MakeOwn
set_option linter.unusedVariables false
set_option linter.unusedSimpArgs false
namespace Go.Proofs.YtffccgnhdpjlaaaGreatDoor.Ev
open Go Go.RowKit
section
variable {P : Program} {σ : Sg} {nm : Nat} {w : World} {H : Tr AO}
noncomputable def SfN (σ : Sg) (nm : Nat) (w : World) (res : Result Next) : Sf → Prop
  | .v x => ∃ u, res = .ok (.value u) w ∧ x.R σ u
  | .nw k o => ∃ u W obj tot, res = .ok (.value u) W ∧ W.heap = w.heap.push obj ∧ Beside w W ∧ ∀ τ, Sub σ τ → τ nm = some ⟨w.heap.size, 0, tot, nov⟩ → (k.av nm).R τ u ∧ o.R τ W ⟨w.heap.size, 0, tot, nov⟩
theorem SfOk.next {s : Sem Value} {r : Sf} (h : SfOk σ nm w (s.run P w) r) : SfN σ nm w ((do pure (Next.value (← s)) : Sem Next).run P w) r := by
  cases r with
  | v x =>
    obtain ⟨u, h1, h2⟩ := h
    exact ⟨u, by simp [h1], h2⟩
  | nw k o =>
    obtain ⟨u, W, obj, tot, h1, h2⟩ := h
    exact ⟨u, W, obj, tot, by simp [h1], h2⟩
/-- A slice that is made, of noughts. -/
noncomputable def evMakeSlice (P : Program) (t : TypeId) (l c : Option AV) : Option Sf := match natOf l, natOf c with
  | some l, some c => match P.underlying t with
    | some (.slice e) => match P.info? e with
      | some ie => match zcells P e with
        | some zl => bif Nat.ble l c && Nat.ble (ie.bytes * c) 1000000 && Nat.ble c 1000000 && Nat.ble 1 (c * ie.size) && Nat.beq zl.length ie.size then some (.nw (.sl l ie.size) (.cells (zrow zl (c * ie.size)) e true)) else none
        | none => none
      | none => none
    | _ => none
  | _, _ => none
theorem evMakeSlice_ok {t : TypeId} {l c : Option AV} {u v : Value} {r : Sf} (hl : ∀ a, l = some a → a.R σ u) (hc : ∀ a, c = some a → a.R σ v) (h : evMakeSlice P t l c = some r) : SfOk σ nm w ((Instr.makeSlice t u v).run P w) r := by
  unfold evMakeSlice at h
  split at h
  · rename_i l c h1 h2
    obtain ⟨k1, rfl⟩ := natOf_ok hl h1
    obtain ⟨k2, rfl⟩ := natOf_ok hc h2
    split at h
    · rename_i e hu
      cases hie : P.info? e with
      | none => rw [hie] at h; cases h
      | some ie =>
        rw [hie] at h
        dsimp only at h
        cases hz : zcells P e with
        | none => rw [hz] at h; cases h
        | some zl =>
          rw [hz] at h
          dsimp only at h
          cases hb : (Nat.ble l c && Nat.ble (ie.bytes * c) 1000000 && Nat.ble c 1000000 && Nat.ble 1 (c * ie.size) && Nat.beq zl.length ie.size) with
          | false => rw [hb] at h; cases h
          | true =>
            rw [hb] at h
            simp only [cond_true, Option.some.injEq] at h
            subst h
            simp only [Bool.and_eq_true] at hb
            have b1 := Nat.le_of_ble_eq_true hb.1.1.1.1
            have b2 := Nat.le_of_ble_eq_true hb.1.1.1.2
            have b3 := Nat.le_of_ble_eq_true hb.1.1.2
            have b4 := Nat.le_of_ble_eq_true hb.1.2
            have b5 := Nat.eq_of_beq_eq_true hb.2
            obtain ⟨i', z, hi', hzz, hzl⟩ := zeros_ok hz
            obtain rfl := Option.some.inj (hie.symm.trans hi')
            have w1 : IntKind.i64.wrap (l : Int) = l := by rw [IntKind.wrap_i64]; omega
            have w2 : IntKind.i64.wrap (c : Int) = c := by rw [IntKind.wrap_i64]; omega
            have hz0 : 0 < ie.size := by
              rcases Nat.eq_zero_or_pos ie.size with h | h
              · rw [h] at b4; simp at b4
              · exact h
            have hbi : ((ie.bytes : Int) * (c : Int)) ≤ 1000000 := by rw [← Int.natCast_mul]; exact Int.ofNat_le.2 b2
            have hn : ¬ c * ie.size = 0 := by omega
            have t1 : ∀ n : Nat, n ≤ c → (decide ((n : Int) < 0) || decide ((ie.bytes : Int) * (n : Int) > 2 ^ 48)) = false := fun n hn => by
              have hm : ((ie.bytes : Int) * (n : Int)) ≤ 1000000 := Int.le_trans (Int.mul_le_mul_of_nonneg_left (by omega) (by omega)) hbi
              have a1 : decide ((n : Int) < 0) = false := decide_eq_false (by omega)
              have a2 : decide ((ie.bytes : Int) * (n : Int) > 2 ^ 48) = false := decide_eq_false (Int.not_lt.2 (Int.le_trans hm (by decide)))
              rw [a1, a2]
              rfl
            have t2 := t1 c (Nat.le_refl _)
            have t3 : (decide ((l : Int) < 0)) = false := decide_eq_false (by omega)
            have t4 : (decide ((l : Int) > (c : Int))) = false := decide_eq_false (by omega)
            have hrun : (Instr.makeSlice t (.int k1 (l : Int)) (.int k2 (c : Int))).run P w = .ok (.slice (some ⟨w.heap.size, 0, none⟩) l c) { w with heap := w.heap.push (.cells ((Array.range (c * ie.size)).map (z.cells[· % z.cells.size]!)) e) } := by
              unfold Instr.makeSlice
              simp only [Sem.run_bind, run_underlying hu, Result.andThen_ok, asInt, asIntOf, Sem.run_pure, typeInfo, run_program, hie, w1, w2, t2, t3, t4, Bool.or_false, Bool.false_eq_true, if_false, run_askRoom, Int.toNat_natCast, sizeOf]
              rw [if_neg hn]
              simp only [Sem.run_bind, zeroValue, typeInfo, run_program, Result.andThen_ok, hie, hzz, Sem.run_pure, newRow, run_newObj]
            refine ⟨_, _, _, (zrow zl (c * ie.size)).length, hrun, rfl, Beside.refl w, fun τ hs ht => ⟨⟨_, ht, Or.inl ⟨c, rfl, ?_, b1⟩⟩, row_R rfl (zrow_R (hzl τ) _ (Or.inr (by omega)))⟩⟩
            show 0 + 0 + c * ie.size = (zrow zl (c * ie.size)).length
            simp [zrow]
    · cases h
  · cases h
noncomputable def fall (P : Program) (ρ : Operand → Option AV) (o : Oper) : Option Sf := match fallOp P ρ o with
  | some v => some (.v v)
  | none => none
theorem fall_ok {ρ : Operand → Option AV} {ev : Operand → Value} (hA : HA σ ρ ev) {o : Oper} (hs : ∀ cs b, o.op ≠ .select cs b) {r : Sf} (h : fall P ρ o = some r) : SfN σ nm w ((execOp ev o).run P w) r := by
  unfold fall at h
  cases hf : fallOp P ρ o with
  | none => rw [hf] at h; cases h
  | some v =>
    rw [hf] at h
    obtain rfl := Option.some.inj h
    exact fallOp_ok hA hs hf w
/-- An operation that reads, or makes a block. -/
noncomputable def evSoft (P : Program) (H : Tr AO) (ρ : Operand → Option AV) (o : Oper) : Option Sf := match o.op with
  | .move x => match ρ x with
    | some a => some (.v a)
    | none => none
  | .assign x => match ρ x with
    | some a => some (.v a)
    | none => none
  | .pick c a b => match ρ c with
    | some (.e (.lf (.b true))) => (match ρ a with
      | some a => some (.v a)
      | none => none)
    | some (.e (.lf (.b false))) => (match ρ b with
      | some a => some (.v a)
      | none => none)
    | _ => none
  | .alloc t => evAlloc P t
  | .box t x => evBox t (ρ x)
  | .build t ps => evBuild P t (aparts ρ ps.toList)
  | .buildSlice t n ps => evBuildSlice P t n (aparts ρ ps.toList)
  | .load t a => evLoad P H t (ρ a)
  | .nilCheck x => match ρ x with
    | some (.e (.lf (.p (some a)))) => some (.v (.e (.lf (.p (some a)))))
    | _ => none
  | .binOp op t x y _ => match evBin P op t (ρ x) (ρ y) with
    | some r => some r
    | none => fall P ρ o
  | .unOp _ _ _ => fall P ρ o
  | .makeInterface _ _ => fall P ρ o
  | .typeAssert _ _ _ _ => fall P ρ o
  | .convert s d x => match evConv P H s d (ρ x) with
    | some r => some r
    | none => fall P ρ o
  | .makeFunc f a c => evMakeFunc f a.toList (acaps ρ c.toList)
  | .makeMap _ r => evMakeMap r
  | .makeSlice t l c => evMakeSlice P t (ρ l) (ρ c)
  | .slice t x lo hi none => evSlice P t (ρ x) (lo.map ρ) (hi.map ρ)
  | .fieldAddr t x f => evFieldAddr P t (ρ x) f
  | .field t x f => evField P t (ρ x) f
  | .indexAddr t x i => evIndexAddr P t (ρ x) (ρ i)
  | .index t x i => evIndex P t (ρ x) (ρ i)
  | .extract x i => evExtract (ρ x) i
  | .call c => match c.callee, c.args.toList, c.argTypes.toList with
    | .builtin .len, [x], [t] => evLen P H t (ρ x)
    | .builtin .min, _, _ => fall P ρ o
    | .builtin .max, _, _ => fall P ρ o
    | _, _, _ => none
  | _ => none
theorem evSoft_ok {ρ : Operand → Option AV} {ev : Operand → Value} (hL : LiveAt σ H w) (hA : HA σ ρ ev) {o : Oper} {r : Sf} (h : evSoft P H ρ o = some r) : SfN σ nm w ((execOp ev o).run P w) r := by
  obtain ⟨dst, op, type, pos, after, guard⟩ := o
  unfold evSoft at h
  dsimp only at h
  cases op with
  | move x =>
    dsimp only at h
    cases hx : ρ x with
    | none => rw [hx] at h; cases h
    | some a => rw [hx] at h; obtain rfl := Option.some.inj h; exact ⟨ev x, rfl, hA x a hx⟩
  | assign x =>
    dsimp only at h
    cases hx : ρ x with
    | none => rw [hx] at h; cases h
    | some a => rw [hx] at h; obtain rfl := Option.some.inj h; exact ⟨ev x, rfl, hA x a hx⟩
  | pick c a b =>
    dsimp only at h
    split at h
    · rename_i hc
      have e : ev c = .bool true := hA c _ hc
      cases hx : ρ a with
      | none => rw [hx] at h; cases h
      | some q => rw [hx] at h; obtain rfl := Option.some.inj h; exact ⟨ev a, by simp [execOp, e, asBool], hA a q hx⟩
    · rename_i hc
      have e : ev c = .bool false := hA c _ hc
      cases hx : ρ b with
      | none => rw [hx] at h; cases h
      | some q => rw [hx] at h; obtain rfl := Option.some.inj h; exact ⟨ev b, by simp [execOp, e, asBool], hA b q hx⟩
    · cases h
  | alloc t => exact (evAlloc_ok h).next
  | box t x => exact (evBox_ok (fun a ha => hA x a ha) h).next
  | build t ps => exact (evBuild_ok hA h).next
  | buildSlice t n ps => exact (evBuildSlice_ok hA h).next
  | load t a => exact (evLoad_ok hL (fun x hx => hA a x hx) h).next
  | nilCheck x =>
    dsimp only at h
    split at h
    · rename_i a hx
      obtain rfl := Option.some.inj h
      obtain ⟨u, h1, h2⟩ := hA x _ hx
      refine ⟨.pointer (some u), ?_, u, h1, rfl⟩
      simp [execOp, h2]
    · cases h
  | binOp op t x y yt =>
    dsimp only at h
    cases hb : evBin P op t (ρ x) (ρ y) with
    | some q => rw [hb] at h; obtain rfl := Option.some.inj h; exact (evBin_ok hA hb).next
    | none => rw [hb] at h; exact fall_ok hA (fun _ _ => by simp) h
  | unOp _ _ _ => exact fall_ok hA (fun _ _ => by simp) h
  | makeInterface _ _ => exact fall_ok hA (fun _ _ => by simp) h
  | typeAssert _ _ _ _ => exact fall_ok hA (fun _ _ => by simp) h
  | convert s d x =>
    dsimp only at h
    cases hb : evConv P H s d (ρ x) with
    | some q => rw [hb] at h; obtain rfl := Option.some.inj h; exact (evConv_ok hL (fun a ha => hA x a ha) hb).next
    | none => rw [hb] at h; exact fall_ok hA (fun _ _ => by simp) h
  | makeFunc f a c => exact (evMakeFunc_ok hA h).next
  | makeMap t r => exact (evMakeMap_ok h).next
  | makeSlice t l c => exact (evMakeSlice_ok (fun a ha => hA l a ha) (fun a ha => hA c a ha) h).next
  | slice t x lo hi mx =>
    cases mx with
    | none => exact (evSlice_ok hA h).next
    | some _ => cases h
  | fieldAddr t x f => exact (evFieldAddr_ok (fun a ha => hA x a ha) h).next
  | field t x f => exact (evField_ok (fun a ha => hA x a ha) h).next
  | indexAddr t x i => exact (evIndexAddr_ok (fun a ha => hA x a ha) (fun a ha => hA i a ha) h).next
  | index t x i => exact (evIndex_ok (fun a ha => hA x a ha) (fun a ha => hA i a ha) h).next
  | extract x i => exact (evExtract_ok (fun a ha => hA x a ha) h).next
  | call c =>
    obtain ⟨callee, args, ats⟩ := c
    dsimp only at h
    split at h
    · rename_i x t ha ht
      have e1 : args = #[x] := by apply Array.ext'; simpa using ha
      have e2 : ats = #[t] := by apply Array.ext'; simpa using ht
      subst e1
      subst e2
      have hl := evLen_ok (P := P) (nm := nm) (ty := type) hL (fun a ha => hA x a ha) h
      have := hl.next
      simpa [execOp, resolve, invoke, builtin] using this
    · exact fall_ok hA (fun _ _ => by simp) h
    · exact fall_ok hA (fun _ _ => by simp) h
    · cases h
  | _ => cases h
end
end Go.Proofs.YtffccgnhdpjlaaaGreatDoor.Ev
