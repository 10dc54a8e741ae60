/- Operations that read, or make a block of their own, by the runner. -/
import Derived.Test.YtffccgnhdpjlaaaGreatDoorEvC
import Derived.Laws.Tables
import Derived.Laws.Cells
import Derived.Laws.Entries
import Derived.Great.BuildSlice
set_option linter.unusedVariables false
set_option linter.unusedSimpArgs false
namespace Go.Proofs.YtffccgnhdpjlaaaGreatDoor.Ev
open Go Go.RowKit
/-! ### rows of leaves -/
theorem RL_len {σ : Sg} : ∀ {l : List Lf} {vs : List Value}, RL σ l vs → l.length = vs.length
  | [], [], _ => rfl
  | _ :: _, _ :: _, h => by rw [List.length_cons, List.length_cons, RL_len h.2]
  | [], _ :: _, h => h.elim
  | _ :: _, [], h => h.elim
theorem RL_get {σ : Sg} : ∀ {l : List Lf} {vs : List Value}, RL σ l vs → ∀ (i : Nat) (x : Lf), l[i]? = some x → ∃ v, vs[i]? = some v ∧ x.R σ v
  | [], [], _, _, _, h => by simp at h
  | _ :: _, v :: _, h, 0, x, hx => by
    simp only [List.getElem?_cons_zero, Option.some.injEq] at hx
    subst hx
    exact ⟨v, rfl, h.1⟩
  | _ :: _, _ :: _, h, i + 1, x, hx => by
    simp only [List.getElem?_cons_succ] at hx ⊢
    exact RL_get h.2 i x hx
  | [], _ :: _, h, _, _, _ => h.elim
  | _ :: _, [], h, _, _, _ => h.elim
theorem RL_of {σ : Sg} : ∀ {l : List Lf} {vs : List Value}, l.length = vs.length → (∀ (i : Nat) (x : Lf), l[i]? = some x → ∃ v, vs[i]? = some v ∧ x.R σ v) → RL σ l vs
  | [], [], _, _ => trivial
  | x :: l, v :: vs, hl, h => by
    obtain ⟨u, hu, hx⟩ := h 0 x rfl
    obtain rfl := Option.some.inj hu
    exact ⟨hx, RL_of (by simpa using hl) fun i y hy => h (i + 1) y (by simpa using hy)⟩
  | [], _ :: _, hl, _ => by simp at hl
  | _ :: _, [], hl, _ => by simp at hl
theorem RL_append {σ : Sg} : ∀ {l m : List Lf} {vs us : List Value}, RL σ l vs → RL σ m us → RL σ (l ++ m) (vs ++ us)
  | [], _, [], _, _, h => h
  | _ :: _, _, _ :: _, _, h, k => ⟨h.1, RL_append h.2 k⟩
  | [], _, _ :: _, _, h, _ => h.elim
  | _ :: _, _, [], _, h, _ => h.elim
theorem RL_take {σ : Sg} : ∀ {l : List Lf} {vs : List Value} (n : Nat), RL σ l vs → RL σ (l.take n) (vs.take n)
  | [], [], _, _ => by simp [RL]
  | _ :: _, _ :: _, 0, _ => by simp [RL]
  | _ :: _, _ :: _, n + 1, h => ⟨h.1, RL_take n h.2⟩
  | [], _ :: _, _, h => h.elim
  | _ :: _, [], _, h => h.elim
theorem RL_drop {σ : Sg} : ∀ {l : List Lf} {vs : List Value} (n : Nat), RL σ l vs → RL σ (l.drop n) (vs.drop n)
  | [], [], _, _ => by simp [RL]
  | _ :: _, _ :: _, 0, h => h
  | _ :: _, _ :: _, n + 1, h => RL_drop n h.2
  | [], _ :: _, _, h => h.elim
  | _ :: _, [], _, h => h.elim
theorem Lf.R.one {σ : Sg} {x : Lf} {v : Value} (h : x.R σ v) : v.oneCell' = true := by
  cases x with
  | b _ => rw [show v = _ from h]; rfl
  | i _ _ => rw [show v = _ from h]; rfl
  | s _ => rw [h.1]; rfl
  | p o =>
    cases o with
    | none => rw [show v = _ from h]; rfl
    | some a => obtain ⟨u, -, rfl⟩ := h; rfl
  | sl o _ _ =>
    cases o with
    | none => rw [h.1]; rfl
    | some a =>
      obtain ⟨B, -, ⟨c, rfl, -⟩ | ⟨-, u, rfl⟩⟩ := h <;> rfl
  | m o =>
    cases o with
    | none => rw [show v = _ from h]; rfl
    | some n => obtain ⟨B, -, rfl⟩ := h; rfl
  | fn _ _ => obtain ⟨vs, -, rfl⟩ := h; rfl
  | raw _ => rw [h.1]; exact h.2
  | sy _ => obtain ⟨B, -, rfl, h⟩ := h; exact h
  | pos _ => obtain ⟨n, rfl, -⟩ := h; rfl
theorem one_cells {v : Value} (h : v.oneCell' = true) : v.cells = #[v] := by
  cases v <;> first | rfl | (cases h; done)
theorem RL_one {σ : Sg} : ∀ {l : List Lf} {vs : List Value}, RL σ l vs → ∀ v ∈ vs, v.oneCell' = true
  | [], [], _, _, h => by cases h
  | _ :: _, _ :: _, h, v, hv => by
    rcases List.mem_cons.1 hv with rfl | hv
    · exact h.1.one
    · exact RL_one h.2 v hv
  | [], _ :: _, h, _, _ => h.elim
  | _ :: _, [], h, _, _ => h.elim
noncomputable def AV.cells : AV → Option (List Lf)
  | .e (.lf x) => some [x]
  | .e (.ag l) => some l
  | _ => none
theorem AV.cells_R {σ : Sg} {x : AV} {l : List Lf} {v : Value} (h : x.cells = some l) (hr : x.R σ v) : RL σ l v.cells.toList := by
  unfold AV.cells at h
  split at h
  · obtain rfl := Option.some.inj h
    have hl : Lf.R σ _ v := hr
    rw [one_cells hl.one]
    exact ⟨hl, trivial⟩
  · obtain rfl := Option.some.inj h
    obtain ⟨vs, h1, rfl⟩ := hr
    simpa [Value.cells] using h1
  · cases h
/-! ### what an operation comes to that reads, or makes a block -/
inductive NK where
  | p
  | sl (len sz : Nat)
  | m
noncomputable def NK.av (k : NK) (nm : Nat) : AV := .e (.lf (match k with
  | .p => .p (some (nm, 0))
  | .sl len sz => .sl (some (nm, 0)) len sz
  | .m => .m (some nm)))
inductive Sf where
  | v (x : AV)
  | nw (k : NK) (o : AO)
noncomputable def LiveAt (σ : Sg) (H : Tr AO) (w : World) : Prop := ∀ n o, H.get n = some o → ∃ B, σ n = some B ∧ o.R σ w B
theorem Ok.liveAt {w0 w : World} {σ : Sg} {S : St} (h : Ok w0 σ S w) : LiveAt σ S.H w := fun n o hn => let ⟨B, b1, _, _, b4⟩ := h.live n o hn; ⟨B, b1, b4⟩
noncomputable def SfOk (σ : Sg) (nm : Nat) (w : World) (res : Result Value) : Sf → Prop
  | .v x => ∃ u, res = .ok u w ∧ x.R σ u
  | .nw k o => ∃ u W obj tot, res = .ok u W ∧ W.heap = w.heap.push obj ∧ Beside w W ∧ ∀ τ, Sub σ τ → τ nm = some ⟨w.heap.size, 0, tot, nov⟩ → (k.av nm).R τ u ∧ o.R τ W ⟨w.heap.size, 0, tot, nov⟩
/-- A row that is just this long. -/
theorem row_R {σ : Sg} {w W : World} {l : List Lf} {cs : Array Value} {t : TypeId} (hW : W.heap = w.heap.push (.cells cs t)) (h : RL σ l cs.toList) : (AO.cells l t true).R σ W ⟨w.heap.size, 0, l.length, nov⟩ := by
  have hl : cs.size = l.length := by rw [RL_len h, Array.length_toList]
  refine ⟨cs, (0, 0), push_new hW, hl, fun i _ hi => by omega, by simp, fun _ => ⟨rfl, rfl⟩, fun i x hx => ?_⟩
  obtain ⟨v, h1, h2⟩ := RL_get h i x hx
  exact ⟨v, by simpa using h1, h2⟩
noncomputable def zcells (P : Program) (t : TypeId) : Option (List Lf) := match P.info? t with
  | some i => match i.zero with
    | some z => absLs z.cells.toList
    | none => none
  | none => none
theorem zcells_ok {P : Program} {t : TypeId} {l : List Lf} (h : zcells P t = some l) : ∃ z, (∀ w, (zeroValue t).run P w = .ok z w) ∧ ∀ σ, RL σ l z.cells.toList := by
  unfold zcells at h
  cases hi : P.info? t with
  | none => rw [hi] at h; cases h
  | some i =>
    rw [hi] at h
    dsimp only at h
    cases hz : i.zero with
    | none => rw [hz] at h; cases h
    | some z =>
      rw [hz] at h
      exact ⟨z, fun w => by simp [zeroValue, typeInfo, hi, hz], fun σ => absLs_R h⟩
section
variable {P : Program} {σ : Sg} {nm : Nat} {w : World}
noncomputable def evAlloc (P : Program) (t : TypeId) : Option Sf := match zcells P t with
  | some l => some (.nw .p (.cells l t true))
  | none => none
theorem evAlloc_ok {t : TypeId} {r : Sf} (h : evAlloc P t = some r) : SfOk σ nm w ((Instr.alloc t true (.tuple #[])).run P w) r := by
  unfold evAlloc at h
  cases hz : zcells P t with
  | none => rw [hz] at h; cases h
  | some l =>
    rw [hz] at h
    obtain rfl := Option.some.inj h
    obtain ⟨z, h1, h2⟩ := zcells_ok hz
    refine ⟨.pointer (some ⟨w.heap.size, 0, none⟩), { w with heap := w.heap.push (.cells z.cells t) }, .cells z.cells t, l.length, by simp [Instr.alloc, h1, newVar, newRow], rfl, Beside.refl w, fun τ hs ht => ⟨⟨_, ⟨_, ht, rfl⟩, rfl⟩, row_R rfl (h2 τ)⟩⟩
noncomputable def evBox (t : TypeId) (x : Option AV) : Option Sf := match x with
  | some x => match x.cells with
    | some l => some (.nw .p (.cells l t true))
    | none => none
  | none => none
theorem evBox_ok {t : TypeId} {x : Option AV} {v : Value} {r : Sf} (hx : ∀ a, x = some a → a.R σ v) (h : evBox t x = some r) : SfOk σ nm w ((Instr.box t v).run P w) r := by
  unfold evBox at h
  cases x with
  | none => cases h
  | some a =>
    dsimp only at h
    cases hc : a.cells with
    | none => rw [hc] at h; cases h
    | some l =>
      rw [hc] at h
      obtain rfl := Option.some.inj h
      have hl := AV.cells_R hc (hx a rfl)
      refine ⟨.pointer (some ⟨w.heap.size, 0, none⟩), { w with heap := w.heap.push (.cells v.cells t) }, .cells v.cells t, l.length, by simp [Instr.box, newVar, newRow], rfl, Beside.refl w, fun τ hs ht => ⟨⟨_, ⟨_, ht, rfl⟩, rfl⟩, row_R rfl (hl.mono hs)⟩⟩
/-! ### literals -/
noncomputable def splice (l : List Lf) (off : Nat) (v : List Lf) : List Lf := l.take off ++ v ++ l.drop (off + v.length)
noncomputable def afill (place : Nat → Option (Nat × Nat)) (l : List Lf) : List (Nat × List Lf) → Option (List Lf)
  | [] => some l
  | (i, v) :: rest => match place i with
    | none => none
    | some (off, size) => bif Nat.beq v.length size && Nat.ble (off + size) l.length then afill place (splice l off v) rest else none
noncomputable def RP (σ : Sg) : List (Nat × List Lf) → List (Nat × Value) → Prop
  | [], [] => True
  | a :: l, b :: m => a.1 = b.1 ∧ RL σ a.2 b.2.cells.toList ∧ RP σ l m
  | _, _ => False
theorem fold_set (off : Nat) : ∀ (vs : List Value) (k : Nat) (cs : Array Value), off + k + vs.length ≤ cs.size →
    ((vs.zipIdx k).foldl (fun (cs : Array Value) (c, j) => cs.setIfInBounds (off + j) c) cs).toList = cs.toList.take (off + k) ++ vs ++ cs.toList.drop (off + k + vs.length)
  | [], k, cs, h => by simp
  | v :: vs, k, cs, h => by
    simp only [List.length_cons] at h
    rw [List.zipIdx_cons, List.foldl_cons]
    have ih := fold_set off vs (k + 1) (cs.setIfInBounds (off + k) v) (by simp; omega)
    rw [ih]
    have hlen : off + k < cs.toList.length := by rw [Array.length_toList]; omega
    have e1 : (cs.setIfInBounds (off + k) v).toList = cs.toList.set (off + k) v := by simp
    rw [e1, ← Nat.add_assoc]
    have e2 : (cs.toList.set (off + k) v).take (off + k + 1) = cs.toList.take (off + k) ++ [v] := by
      rw [List.take_add_one, List.take_set_of_le (Nat.le_refl _), List.getElem?_set_self hlen]
      rfl
    rw [e2, List.drop_set_of_lt (by omega), show off + k + 1 + vs.length = off + k + (vs.length + 1) by omega]
    simp
theorem afill_ok {place : Nat → Option (Nat × Nat)} : ∀ {ps : List (Nat × List Lf)} {qs : List (Nat × Value)} {l r : List Lf} {cs : Array Value}, RP σ ps qs → RL σ l cs.toList → afill place l ps = some r →
    ∃ ds, Instr.fill place cs qs = some ds ∧ RL σ r ds.toList
  | [], [], l, r, cs, _, hl, h => by
    obtain rfl := Option.some.inj h
    exact ⟨cs, rfl, hl⟩
  | (i, v) :: ps, (j, u) :: qs, l, r, cs, hp, hl, h => by
    obtain ⟨rfl, h1, h2⟩ := hp
    unfold afill at h
    unfold Instr.fill
    cases hpl : place i with
    | none => rw [hpl] at h; cases h
    | some os =>
      obtain ⟨off, size⟩ := os
      rw [hpl] at h
      dsimp only at h ⊢
      cases hc : Nat.beq v.length size && Nat.ble (off + size) l.length with
      | false => rw [hc] at h; cases h
      | true =>
        rw [hc] at h
        simp only [cond_true] at h
        simp only [Bool.and_eq_true] at hc
        have hv : v.length = size := Nat.eq_of_beq_eq_true hc.1
        have ho : off + size ≤ l.length := Nat.le_of_ble_eq_true hc.2
        have hu : u.cells.size = v.length := by rw [RL_len h1, Array.length_toList]
        have hcs : cs.size = l.length := by rw [RL_len hl, Array.length_toList]
        rw [if_neg (by simp; omega)]
        have hf := fold_set off u.cells.toList 0 cs (by rw [Array.length_toList, hcs, hu]; omega)
        have hz : (u.cells.zipIdx.foldl (fun (cs : Array Value) (c, j) => cs.setIfInBounds (off + j) c) cs) = ((u.cells.toList.zipIdx 0).foldl (fun (cs : Array Value) (c, j) => cs.setIfInBounds (off + j) c) cs) := by
          rw [← Array.foldl_toList]
          simp
        refine afill_ok h2 (l := splice l off v) ?_ h
        rw [hz, hf, Nat.add_zero, Array.length_toList, hu]
        exact RL_append (RL_append (RL_take off hl) h1) (RL_drop (off + v.length) hl)
  | [], _ :: _, _, _, _, hp, _, _ => hp.elim
  | _ :: _, [], _, _, _, hp, _, _ => hp.elim
/-- The parts of a literal. -/
noncomputable def aparts (ρ : Operand → Option AV) : List (Nat × Operand) → Option (List (Nat × List Lf))
  | [] => some []
  | (i, x) :: l => match ρ x with
    | some a => match a.cells with
      | some v => match aparts ρ l with
        | some r => some ((i, v) :: r)
        | none => none
      | none => none
    | none => none
theorem aparts_ok {ρ : Operand → Option AV} {ev : Operand → Value} (hA : HA σ ρ ev) : ∀ {l : List (Nat × Operand)} {r : List (Nat × List Lf)}, aparts ρ l = some r → RP σ r (l.map fun x => (x.1, ev x.2))
  | [], r, h => by
    obtain rfl := Option.some.inj h
    trivial
  | (i, x) :: l, r, h => by
    unfold aparts at h
    cases ha : ρ x with
    | none => rw [ha] at h; cases h
    | some a =>
      rw [ha] at h
      dsimp only at h
      cases hc : a.cells with
      | none => rw [hc] at h; cases h
      | some v =>
        rw [hc] at h
        dsimp only at h
        cases hr : aparts ρ l with
        | none => rw [hr] at h; cases h
        | some q =>
          rw [hr] at h
          obtain rfl := Option.some.inj h
          exact ⟨rfl, AV.cells_R hc (hA x a ha), aparts_ok hA hr⟩
/-- Where the parts of a struct, or an array, stand. -/
noncomputable def places (P : Program) (t : TypeId) : Option (Nat → Option (Nat × Nat)) := match P.underlying t with
  | some (.array _ e) => match P.info? e with
    | some ie => some fun i => some (i * ie.size, ie.size)
    | none => none
  | some (.struct fields) => match fields.toList.mapM (fun f => (P.info? f.type).map fun i => (f.offset, i.size)) with
    | some pl => some fun i => pl.toArray[i]?
    | none => none
  | _ => none
noncomputable def evBuild (P : Program) (t : TypeId) (ps : Option (List (Nat × List Lf))) : Option Sf := match ps with
  | some ps => match places P t with
    | some place => match zcells P t with
      | some l => match afill place l ps with
        | some r => some (.v (.e (.ag r)))
        | none => none
      | none => none
    | none => none
  | none => none
theorem evBuild_ok {ρ : Operand → Option AV} {ev : Operand → Value} (hA : HA σ ρ ev) {t : TypeId} {parts : Array (Nat × Operand)} {r : Sf} (h : evBuild P t (aparts ρ parts.toList) = some r) :
    SfOk σ nm w ((Instr.build t (parts.map fun (i, x) => (i, ev x))).run P w) r := by
  unfold evBuild at h
  cases hp : aparts ρ parts.toList with
  | none => rw [hp] at h; cases h
  | some ps =>
    rw [hp] at h
    dsimp only at h
    cases hpl : places P t with
    | none => rw [hpl] at h; cases h
    | some place =>
      rw [hpl] at h
      dsimp only at h
      cases hz : zcells P t with
      | none => rw [hz] at h; cases h
      | some l =>
        rw [hz] at h
        dsimp only at h
        cases hf : afill place l ps with
        | none => rw [hf] at h; cases h
        | some q =>
          rw [hf] at h
          obtain rfl := Option.some.inj h
          have hRP := aparts_ok hA hp
          have hb : ∃ z, P.info? t = some z ∧ ∃ zv, z.zero = some zv ∧ absLs zv.cells.toList = some l := by
            unfold zcells at hz
            cases hi : P.info? t with
            | none => rw [hi] at hz; cases hz
            | some i =>
              rw [hi] at hz
              dsimp only at hz
              cases hv : i.zero with
              | none => rw [hv] at hz; cases hz
              | some zv => rw [hv] at hz; exact ⟨i, rfl, zv, hv, hz⟩
          obtain ⟨it, hi, zv, hv, hl⟩ := hb
          obtain ⟨ds, hd, hr⟩ := afill_ok (σ := σ) hRP (absLs_R hl) hf
          have hbuilt : P.built t (parts.map fun (i, x) => (i, ev x)).toList = some ds := by
            rw [Array.toList_map]
            unfold Program.built
            unfold places at hpl
            rw [hi]
            split at hpl
            · rename_i _ e hu
              cases he : P.info? e with
              | none => rw [he] at hpl; cases hpl
              | some ie =>
                rw [he] at hpl
                obtain rfl := Option.some.inj hpl
                simp only [hu, hv, he]
                exact hd
            · rename_i fields hu
              cases hm : fields.toList.mapM (fun f => (P.info? f.type).map fun i => (f.offset, i.size)) with
              | none => rw [hm] at hpl; cases hpl
              | some pl =>
                rw [hm] at hpl
                obtain rfl := Option.some.inj hpl
                simp only [hu, hv, hm]
                exact hd
            · cases hpl
          exact ⟨_, run_build w t _ ds hbuilt, ds.toList, hr, by simp⟩
end
end Go.Proofs.YtffccgnhdpjlaaaGreatDoor.Ev
