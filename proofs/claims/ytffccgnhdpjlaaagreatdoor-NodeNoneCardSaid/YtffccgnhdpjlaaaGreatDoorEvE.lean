/- Operations that read, by the runner: slices' literals, loads, fields, elements. -/
import Derived.Test.YtffccgnhdpjlaaaGreatDoorEvD
set_option linter.unusedVariables false
set_option linter.unusedSimpArgs false
namespace Go.Proofs.YtffccgnhdpjlaaaGreatDoor.Ev
open Go Go.RowKit
section
variable {P : Program} {σ : Sg} {nm : Nat} {w : World} {H : Tr AO}
/-- n cells, the zero's over and over. -/
noncomputable def zrow (zl : List Lf) (n : Nat) : List Lf := (List.range n).map fun i => zl.getD (i % zl.length) (.b false)
theorem zrow_R {zl : List Lf} {z : Array Value} (h : RL σ zl z.toList) (n : Nat) (hn : n = 0 ∨ 0 < zl.length) : RL σ (zrow zl n) ((Array.range n).map (z[· % z.size]!)).toList := by
  have hl : zl.length = z.size := (RL_len h).trans Array.length_toList
  refine RL_of (by simp [zrow]) fun i x hx => ?_
  simp only [zrow, List.getElem?_map] at hx
  by_cases hi : i < n
  · rw [List.getElem?_range hi, Option.map_some, Option.some.injEq] at hx
    have hz : 0 < zl.length := by rcases hn with rfl | h <;> omega
    have hm : i % zl.length < zl.length := Nat.mod_lt _ hz
    have hg : zl[i % zl.length]? = some x := by
      rw [List.getD_eq_getElem?_getD, List.getElem?_eq_getElem hm] at hx
      rw [List.getElem?_eq_getElem hm]
      exact congrArg some hx
    obtain ⟨v, hv, hr⟩ := RL_get h _ _ hg
    refine ⟨v, ?_, hr⟩
    have hv' : z[i % z.size]? = some v := by rw [← hl]; simpa using hv
    simp only [Array.toList_map, List.getElem?_map, Array.toList_range, List.getElem?_range hi, Option.map_some, Option.some.injEq]
    rw [getElem!_def, hv']
  · rw [List.getElem?_eq_none (by simpa using hi)] at hx
    cases hx
theorem zeros_ok {t : TypeId} {l : List Lf} (h : zcells P t = some l) : ∃ i z, P.info? t = some i ∧ i.zero = some z ∧ ∀ σ, RL σ l z.cells.toList := by
  unfold zcells at h
  cases hi : P.info? t with
  | none => rw [hi] at h; cases h
  | some i =>
    rw [hi] at h
    dsimp only at h
    cases hv : i.zero with
    | none => rw [hv] at h; cases h
    | some z => rw [hv] at h; exact ⟨i, z, rfl, hv, fun σ => absLs_R h⟩
noncomputable def evBuildSlice (P : Program) (t : TypeId) (len : Nat) (ps : Option (List (Nat × List Lf))) : Option Sf := match ps with
  | some ps => match P.underlying t with
    | some (.slice e) => match P.info? e with
      | some ie => match zcells P e with
        | some zl => bif Nat.ble (len * ie.size) 16777216 && Nat.ble 1 (len * ie.size) && Nat.ble 1 zl.length then
            (match afill (fun i => some (i * ie.size, ie.size)) (zrow zl (len * ie.size)) ps with
            | some r => bif Nat.beq r.length (len * ie.size) then some (.nw (.sl len ie.size) (.cells r e true)) else none
            | none => none) else none
        | none => none
      | none => none
    | _ => none
  | none => none
theorem evBuildSlice_ok {ρ : Operand → Option AV} {ev : Operand → Value} (hA : HA σ ρ ev) {t : TypeId} {len : Nat} {parts : Array (Nat × Operand)} {r : Sf} (h : evBuildSlice P t len (aparts ρ parts.toList) = some r) :
    SfOk σ nm w ((Instr.buildSlice t len (parts.map fun (i, x) => (i, ev x))).run P w) r := by
  unfold evBuildSlice at h
  cases hp : aparts ρ parts.toList with
  | none => rw [hp] at h; cases h
  | some ps =>
    rw [hp] at h
    dsimp only at h
    split at h
    · rename_i e hu
      cases hie : P.info? e with
      | none => rw [hie] at h; cases h
      | some ie =>
        rw [hie] at h
        dsimp only at h
        cases hz : zcells P e with
        | none => rw [hz] at h; cases h
        | some zl =>
          rw [hz] at h
          dsimp only at h
          cases hc : (Nat.ble (len * ie.size) 16777216 && Nat.ble 1 (len * ie.size) && Nat.ble 1 zl.length) with
          | false => rw [hc] at h; cases h
          | true =>
            rw [hc] at h
            simp only [cond_true] at h
            simp only [Bool.and_eq_true] at hc
            have h1 := Nat.le_of_ble_eq_true hc.1.1
            have h2 := Nat.le_of_ble_eq_true hc.1.2
            have h3 := Nat.le_of_ble_eq_true hc.2
            cases hf : afill (fun i => some (i * ie.size, ie.size)) (zrow zl (len * ie.size)) ps with
            | none => rw [hf] at h; cases h
            | some q =>
              rw [hf] at h
              dsimp only at h
              cases hq : Nat.beq q.length (len * ie.size) with
              | false => rw [hq] at h; cases h
              | true =>
                rw [hq] at h
                simp only [cond_true, Option.some.injEq] at h
                subst h
                have hql := Nat.eq_of_beq_eq_true hq
                obtain ⟨i', z, hi', hzz, hzl⟩ := zeros_ok hz
                obtain rfl := Option.some.inj (hie.symm.trans hi')
                have hRP := aparts_ok hA hp
                obtain ⟨ds, hd, hr⟩ := afill_ok (σ := σ) (cs := ((Array.range (len * ie.size)).map (z.cells[· % z.cells.size]!))) hRP (zrow_R (hzl σ) _ (Or.inr h3)) hf
                have hrun := run_buildSlice (P := P) w t e len (parts.map fun (i, x) => (i, ev x)) ds ie z hu hie hzz (by omega) (by omega) (by rw [Array.toList_map]; exact hd)
                refine ⟨_, _, .cells ds e, q.length, hrun, rfl, Beside.refl w, fun τ hs ht => ⟨⟨_, ht, Or.inl ⟨len, rfl, ?_, Nat.le_refl _⟩⟩, row_R rfl (hr.mono hs)⟩⟩
                show 0 + 0 + len * ie.size = q.length
                omega
    · cases h
/-! ### loads -/
noncomputable def isag (P : Program) (t : TypeId) : Option Bool := match P.underlying t with
  | some (.struct _) => some true
  | some (.array _ _) => some true
  | some _ => some false
  | none => none
theorem isag_run {t : TypeId} {b : Bool} (h : isag P t = some b) : (isAgg t).run P w = .ok b w := by
  unfold isag at h
  unfold isAgg
  rw [Sem.run_bind]
  split at h
  · rename_i d hu; rw [run_underlying hu]; obtain rfl := Option.some.inj h; rfl
  · rename_i d e hu; rw [run_underlying hu]; obtain rfl := Option.some.inj h; rfl
  · rename_i d h1 h2 hu
    rw [run_underlying hu]
    obtain rfl := Option.some.inj h
    cases d <;> first | rfl | exact absurd rfl (h1 _) | exact absurd rfl (h2 _ _)
  · cases h
theorem cell_at {b off : Nat} {cs : Array Value} {t : TypeId} {fz : Nat × Nat} (h : w.heap[b]? = some (.cells cs t fz)) : w.cell? ⟨b, off, none⟩ = cs[off]? := by
  simp [World.cell?, h]
theorem add_at (b off i : Nat) : (⟨b, off, none⟩ : Addr).add i = ⟨b, off + i, none⟩ := by
  unfold Addr.add
  split
  · rename_i h; rw [h]; rfl
  · rfl
noncomputable def evLoad (P : Program) (H : Tr AO) (t : TypeId) (a : Option AV) : Option Sf := match a with
  | some (.e (.lf (.p (some (n, o))))) => match H.get n with
    | some (.cells l _ _) => match isag P t with
      | some true => match P.info? t with
        | some i => bif Nat.beq ((l.drop o).take i.size).length i.size then some (.v (.e (.ag ((l.drop o).take i.size)))) else none
        | none => none
      | some false => match l[o]? with
        | some x => some (.v (.e (.lf x)))
        | none => none
      | none => none
    | _ => none
  | _ => none
theorem evLoad_ok {t : TypeId} {a : Option AV} {v : Value} {r : Sf} (hL : LiveAt σ H w) (hx : ∀ x, a = some x → x.R σ v) (h : evLoad P H t a = some r) : SfOk σ nm w ((Instr.loadAt t v).run P w) r := by
  unfold evLoad at h
  split at h
  · rename_i n o
    obtain ⟨u, ⟨B, hB, rfl⟩, rfl⟩ := hx _ rfl
    cases hn : H.get n with
    | none => rw [hn] at h; cases h
    | some ob =>
      cases ob with
      | mp es => rw [hn] at h; cases h
      | si _ _ => rw [hn] at h; cases h
      | cells l tt ex =>
        rw [hn] at h
        dsimp only at h
        obtain ⟨B', hB', cs, fz, h1, h2, h3, h4, h5, h6⟩ := hL n _ hn
        obtain rfl := Option.some.inj (hB.symm.trans hB')
        cases hg : isag P t with
        | none => rw [hg] at h; cases h
        | some b =>
          rw [hg] at h
          have hga := isag_run (w := w) hg
          cases b with
          | true =>
            dsimp only at h
            cases hi : P.info? t with
            | none => rw [hi] at h; cases h
            | some i =>
              rw [hi] at h
              dsimp only at h
              cases hq : Nat.beq ((l.drop o).take i.size).length i.size with
              | false => rw [hq] at h; cases h
              | true =>
                rw [hq] at h
                simp only [cond_true, Option.some.injEq] at h
                subst h
                have hsz := Nat.eq_of_beq_eq_true hq
                have hlen : i.size ≤ l.length - o := by rw [List.length_take, List.length_drop] at hsz; omega
                have hlen2 : ((cs.toList.drop (B.base + o)).take i.size).length = i.size := by
                  rw [List.length_take, List.length_drop, Array.length_toList]
                  by_cases h0 : i.size = 0
                  · omega
                  · omega
                have hld := run_loadCells_list (P := P) w ⟨B.b, B.base + o, none⟩ ((cs.toList.drop (B.base + o)).take i.size) (fun j v hj => by
                  rw [add_at, cell_at h1]
                  rw [List.getElem?_take] at hj
                  split at hj
                  · rw [List.getElem?_drop, Array.getElem?_toList] at hj
                    exact hj
                  · cases hj)
                rw [hlen2] at hld
                refine ⟨.agg ((cs.toList.drop (B.base + o)).take i.size).toArray, by simp [Instr.loadAt, Instr.sureAddr, loadVar, hga, sizeOf, typeInfo, hi, hld], _, RL_of (by rw [hsz, hlen2]) fun j x hj => ?_, rfl⟩
                rw [List.getElem?_take] at hj ⊢
                split at hj
                · rename_i hlt
                  rw [List.getElem?_drop] at hj
                  obtain ⟨v, k1, k2⟩ := h6 _ _ hj
                  refine ⟨v, ?_, k2⟩
                  rw [if_pos hlt, List.getElem?_drop, Array.getElem?_toList, Nat.add_assoc]
                  exact k1
                · cases hj
          | false =>
            dsimp only at h
            cases hl : l[o]? with
            | none => rw [hl] at h; cases h
            | some x =>
              rw [hl] at h
              simp only [Option.some.injEq] at h
              subst h
              obtain ⟨v, k1, k2⟩ := h6 _ _ hl
              refine ⟨v, ?_, k2⟩
              simp [Instr.loadAt, Instr.sureAddr, loadVar, hga, cell_at h1, k1]
  · cases h
/-! ### parts -/
noncomputable def evPart (P : Program) (t : TypeId) (l : List Lf) (off : Nat) : Option AV := match isag P t with
  | some true => match P.info? t with
    | some i => some (.e (.ag ((l.take (off + i.size)).drop off)))
    | none => none
  | some false => match l[off]? with
    | some x => some (.e (.lf x))
    | none => none
  | none => none
theorem evPart_ok {t : TypeId} {l : List Lf} {vs : Array Value} {off : Nat} {r : AV} (hl : RL σ l vs.toList) (h : evPart P t l off = some r) : ∃ u, (part t vs off).run P w = .ok u w ∧ r.R σ u := by
  unfold evPart at h
  cases hg : isag P t with
  | none => rw [hg] at h; cases h
  | some b =>
    rw [hg] at h
    have hga := isag_run (w := w) hg
    cases b with
    | true =>
      dsimp only at h
      cases hi : P.info? t with
      | none => rw [hi] at h; cases h
      | some i =>
        rw [hi] at h
        obtain rfl := Option.some.inj h
        refine ⟨.agg (vs.extract off (off + i.size)), by simp [part, hga, sizeOf, typeInfo, hi], (vs.toList.take (off + i.size)).drop off, RL_drop _ (RL_take _ hl), ?_⟩
        congr 1
        apply Array.ext'
        rw [Array.toList_extract, List.extract_eq_take_drop, List.drop_take]
    | false =>
      dsimp only at h
      cases hx : l[off]? with
      | none => rw [hx] at h; cases h
      | some x =>
        rw [hx] at h
        obtain rfl := Option.some.inj h
        obtain ⟨v, k1, k2⟩ := RL_get hl _ _ hx
        rw [Array.getElem?_toList] at k1
        exact ⟨v, by simp [part, hga, k1], k2⟩
noncomputable def evField (P : Program) (t : TypeId) (x : Option AV) (f : Nat) : Option Sf := match x with
  | some (.e (.ag l)) => match P.underlying t with
    | some (.struct fields) => match fields[f]? with
      | some fd => match evPart P fd.type l fd.offset with
        | some r => some (.v r)
        | none => none
      | none => none
    | _ => none
  | _ => none
theorem evField_ok {t : TypeId} {x : Option AV} {v : Value} {f : Nat} {r : Sf} (hx : ∀ a, x = some a → a.R σ v) (h : evField P t x f = some r) : SfOk σ nm w ((Instr.field t v f).run P w) r := by
  unfold evField at h
  split at h
  · rename_i l
    obtain ⟨vs, h1, rfl⟩ := hx _ rfl
    split at h
    · rename_i fields hu
      cases hf : fields[f]? with
      | none => rw [hf] at h; cases h
      | some fd =>
        rw [hf] at h
        dsimp only at h
        cases hp : evPart P fd.type l fd.offset with
        | none => rw [hp] at h; cases h
        | some q =>
          rw [hp] at h
          obtain rfl := Option.some.inj h
          obtain ⟨u, k1, k2⟩ := evPart_ok (P := P) (w := w) (vs := vs.toArray) (by simpa using h1) hp
          exact ⟨u, by simp [Instr.field, run_underlying hu, hf, asAgg, k1], k2⟩
    · cases h
  · cases h
noncomputable def evFieldAddr (P : Program) (t : TypeId) (x : Option AV) (f : Nat) : Option Sf := match x with
  | some (.e (.lf (.p (some (n, o))))) => match P.underlying t with
    | some (.struct fields) => match fields[f]? with
      | some fd => match P.info? fd.type with
        | some i => bif Nat.ble 1 i.size then some (.v (.e (.lf (.p (some (n, o + fd.offset)))))) else none
        | none => none
      | none => none
    | _ => none
  | _ => none
theorem evFieldAddr_ok {t : TypeId} {x : Option AV} {v : Value} {f : Nat} {r : Sf} (hx : ∀ a, x = some a → a.R σ v) (h : evFieldAddr P t x f = some r) : SfOk σ nm w ((Instr.fieldAt t v f).run P w) r := by
  unfold evFieldAddr at h
  split at h
  · rename_i n o
    obtain ⟨u, ⟨B, hB, rfl⟩, rfl⟩ := hx _ rfl
    split at h
    · rename_i fields hu
      cases hf : fields[f]? with
      | none => rw [hf] at h; cases h
      | some fd =>
        rw [hf] at h
        dsimp only at h
        cases hi : P.info? fd.type with
        | none => rw [hi] at h; cases h
        | some i =>
          rw [hi] at h
          dsimp only at h
          cases hb : Nat.ble 1 i.size with
          | false => rw [hb] at h; cases h
          | true =>
            rw [hb] at h
            simp only [cond_true, Option.some.injEq] at h
            subst h
            have hs := Nat.le_of_ble_eq_true hb
            have hne : ¬ i.size = 0 := by omega
            refine ⟨.pointer (some ⟨B.b, B.base + o + fd.offset, none⟩), by simp [Instr.fieldAt, run_underlying hu, hf, Instr.sureAddr, fieldPlace, sizeOf, typeInfo, hi, hne, add_at], _, ⟨B, hB, ?_⟩, rfl⟩
            simp [Nat.add_assoc]
    · cases h
  · cases h
end
end Go.Proofs.YtffccgnhdpjlaaaGreatDoor.Ev
