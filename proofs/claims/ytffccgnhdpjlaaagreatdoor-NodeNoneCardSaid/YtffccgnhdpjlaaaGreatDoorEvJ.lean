/- Stores, by the runner. -/
import Derived.Test.YtffccgnhdpjlaaaGreatDoorEvI
import Derived.Laws.IdiomCopy
import Derived.ArgAppend
set_option linter.unusedVariables false
set_option linter.unusedSimpArgs false
namespace Go.Proofs.YtffccgnhdpjlaaaGreatDoor.Ev
open Go Go.RowKit
/-- A name that nobody uses any more. -/
theorem Ok.kill {w0 w : World} {σ : Sg} {S : St} (h : Ok w0 σ S w) {H' : Tr AO} {n : Nat} (hu : Tr.upd none purse S.H n = some H') : Ok w0 σ ⟨H', S.nx⟩ w := by
  have hg := Tr.get_upd _ _ _ _ _ hu
  have live : ∀ m q, H'.get m = some q → m ≠ n ∧ S.H.get m = some q := fun m q hl => by
    rw [hg] at hl
    by_cases e : m = n
    · rw [if_pos e] at hl; cases hl
    · rw [if_neg e] at hl; exact ⟨e, hl⟩
  exact ⟨h.below, fun m q hl => h.live m q (live m q hl).2, fun m1 m2 q1 q2 B1 B2 h1 h2 => h.inj m1 m2 q1 q2 B1 B2 (live _ _ h1).2 (live _ _ h2).2, h.fresh⟩
theorem Fr.kill {σ : Sg} {S : St} {w : World} {H' : Tr AO} {n : Nat} (hu : Tr.upd none purse S.H n = some H') : Fr σ S w σ ⟨H', S.nx⟩ w := by
  have hg := Tr.get_upd _ _ _ _ _ hu
  refine ⟨Sub.refl σ, Nat.le_refl _, fun k hk ho => ⟨rfl, fun m q B hl hs => ?_⟩, Nat.le_refl _, fun _ _ h => h⟩
  rw [hg] at hl
  by_cases e : m = n
  · rw [if_pos e] at hl; cases hl
  · rw [if_neg e] at hl; exact ho m q B hl hs
/-- A row that goes on in the block of a name that ends. -/
theorem Ok.move {w0 w w' : World} {σ : Sg} {S : St} (h : Ok w0 σ S w) {H' H2 : Tr AO} {n nm nx' : Nat} {o o' : AO} {B : Blk} {base : Nat} (hn : S.H.get n = some o) (hB : σ n = some B) (hu : Tr.upd none purse S.H n = some H') (hu2 : Tr.upd (some o') purse H' nm = some H2)
    (hnm : σ nm = none) (hge : S.nx ≤ nm) (hx : S.nx ≤ nx') (hx' : nm < nx') (hos : Beside w w') (hsz : w'.heap.size = w.heap.size) (hk : ∀ k, k ≠ B.b → w'.heap[k]? = w.heap[k]?) (ho : o'.R (σ.put nm ⟨B.b, base, B.tot, nov⟩) w' ⟨B.b, base, B.tot, nov⟩) :
    Ok w0 (σ.put nm ⟨B.b, base, B.tot, nov⟩) ⟨H2, nx'⟩ w' ∧ Fr σ S w (σ.put nm ⟨B.b, base, B.tot, nov⟩) ⟨H2, nx'⟩ w' := by
  have hsub := Sg.sub_put ⟨B.b, base, B.tot, nov⟩ hnm
  have hg := Tr.get_upd _ _ _ _ _ hu
  have hg2 := Tr.get_upd _ _ _ _ _ hu2
  obtain ⟨C, c1, c2, c3, -⟩ := h.live n o hn
  obtain rfl := Option.some.inj (hB.symm.trans c1)
  have hne : nm ≠ n := fun e => by rw [e, hB] at hnm; cases hnm
  have live : ∀ m q, H2.get m = some q → (m = nm ∧ q = o') ∨ (m ≠ nm ∧ m ≠ n ∧ S.H.get m = some q) := fun m q hl => by
    rw [hg2] at hl
    by_cases e : m = nm
    · rw [if_pos e] at hl; exact Or.inl ⟨e, (Option.some.inj hl).symm⟩
    · rw [if_neg e, hg] at hl
      by_cases e2 : m = n
      · rw [if_pos e2] at hl; cases hl
      · rw [if_neg e2] at hl; exact Or.inr ⟨e, e2, hl⟩
  refine ⟨⟨⟨hos.1.trans h.below.os, hos.2.1.trans h.below.tape, hos.2.2.trans h.below.output, by rw [hsz]; exact h.below.size, fun k hk' => (hk k (by omega)).trans (h.below.block k hk')⟩, fun m q hl => ?_, fun m1 m2 q1 q2 B1 B2 h1 h2 s1 s2 e => ?_, fun m C hs => ?_⟩,
    hsub, by omega, fun k hk' hoff => ⟨hk k (fun e => hoff n o B hn hB e.symm), fun m q C hl hs => ?_⟩, hx, fun n hn hs => by unfold Sg.put; rw [if_neg (by omega)]; exact hs⟩
  · rcases live m q hl with ⟨rfl, rfl⟩ | ⟨e1, e2, hl'⟩
    · exact ⟨_, Sg.put_same _ _ _, c2, by show B.b < _; omega, ho⟩
    · obtain ⟨D, d1, d2, d3, d4⟩ := h.live m q hl'
      exact ⟨D, hsub _ _ d1, d2, by omega, (d4.mono hsub).same (hk _ (fun e => e2 (h.inj m n q o D B hl' hn d1 hB e)))⟩
  · rcases live m1 q1 h1 with ⟨rfl, rfl⟩ | ⟨a1, a2, h1'⟩ <;> rcases live m2 q2 h2 with ⟨e3, rfl⟩ | ⟨b1, b2, h2'⟩
    · exact e3.symm
    · obtain ⟨D, d1, -⟩ := h.live m2 q2 h2'
      rw [Sg.put_same] at s1
      rw [hsub _ _ d1] at s2
      obtain rfl := Option.some.inj s1
      obtain rfl := Option.some.inj s2
      exact absurd (h.inj m2 n q2 o _ _ h2' hn d1 hB e.symm) b2
    · subst e3
      obtain ⟨D, d1, -⟩ := h.live m1 q1 h1'
      rw [Sg.put_same] at s2
      rw [hsub _ _ d1] at s1
      obtain rfl := Option.some.inj s1
      obtain rfl := Option.some.inj s2
      exact absurd (h.inj m1 n q1 o _ _ h1' hn d1 hB e) a2
    · obtain ⟨D1, d1, -⟩ := h.live m1 q1 h1'
      obtain ⟨D2, d2, -⟩ := h.live m2 q2 h2'
      rw [hsub _ _ d1] at s1
      rw [hsub _ _ d2] at s2
      obtain rfl := Option.some.inj s1
      obtain rfl := Option.some.inj s2
      exact h.inj m1 m2 q1 q2 _ _ h1' h2' d1 d2 e
  · unfold Sg.put at hs
    by_cases e : m = nm
    · subst e; exact hx'
    · rw [if_neg e] at hs; exact Nat.lt_of_lt_of_le (h.fresh m C hs) hx
  · rcases live m q hl with ⟨rfl, rfl⟩ | ⟨e1, e2, hl'⟩
    · rw [Sg.put_same] at hs
      obtain rfl := Option.some.inj hs
      exact hoff n o B hn hB
    · obtain ⟨D, d1, -⟩ := h.live m q hl'
      rw [hsub _ _ d1] at hs
      obtain rfl := Option.some.inj hs
      exact hoff m q _ hl' d1
/-! ### cells written -/
theorem setCell_heap {w : World} {b off : Nat} {cs : Array Value} {t : TypeId} {fz : Nat × Nat} (h : w.heap[b]? = some (.cells cs t fz)) (v : Value) : (w.setCell ⟨b, off, none⟩ v).heap[b]? = some (.cells (cs.setIfInBounds off v) t fz) := by
  unfold World.setCell
  simp [Array.getElem?_modify, h]
theorem setCell_else {w : World} {b off k : Nat} (v : Value) (h : k ≠ b) : (w.setCell ⟨b, off, none⟩ v).heap[k]? = w.heap[k]? := by
  unfold World.setCell
  simp [Array.getElem?_modify, Ne.symm h]
theorem setCells_facts (b : Nat) (t : TypeId) (fz : Nat × Nat) : ∀ (vs : List Value) (o : Nat) (w : World) (cs : Array Value), w.heap[b]? = some (.cells cs t fz) →
    Beside w (w.setCells b o vs) ∧ (w.setCells b o vs).heap.size = w.heap.size ∧ (∀ k, k ≠ b → (w.setCells b o vs).heap[k]? = w.heap[k]?) ∧
    ∃ ds, (w.setCells b o vs).heap[b]? = some (.cells ds t fz) ∧ ds.size = cs.size ∧ ∀ i, (i < o ∨ o + vs.length ≤ i → ds[i]? = cs[i]?) ∧ (o ≤ i → i < o + vs.length → o + vs.length ≤ cs.size → ds[i]? = vs[i - o]?)
  | [], o, w, cs, h => ⟨Beside.refl w, rfl, fun _ _ => rfl, cs, h, rfl, fun i => ⟨fun _ => rfl, fun a b => by simp at b; omega⟩⟩
  | v :: vs, o, w, cs, h => by
    obtain ⟨h1, h2, h3, ds, h4, h5, h6⟩ := setCells_facts b t fz vs (o + 1) (w.setCell ⟨b, o, none⟩ v) _ (setCell_heap h v)
    refine ⟨⟨h1.1, h1.2.1, h1.2.2⟩, h2.trans (by simp [World.setCell]), fun k hk => (h3 k hk).trans (setCell_else v hk), ds, h4, by rw [h5]; simp, fun i => ⟨fun hi => ?_, fun a1 a2 a3 => ?_⟩⟩
    · simp only [List.length_cons] at hi
      rw [(h6 i).1 (by omega), Array.getElem?_setIfInBounds, if_neg (by omega)]
    · simp only [List.length_cons] at a2 a3
      by_cases e : i = o
      · subst e
        rw [(h6 i).1 (by omega), Array.getElem?_setIfInBounds, if_pos rfl, if_pos (by omega)]
        simp
      · rw [(h6 i).2 (by omega) (by omega) (by simp; omega)]
        have : i - o = (i - (o + 1)) + 1 := by omega
        rw [this, List.getElem?_cons_succ]
section
variable {P : Program} {σ : Sg} {w0 w : World} {S : St}
/-- What an operation comes to that writes. -/
noncomputable def HdOk (P : Program) (w0 : World) (σ : Sg) (S : St) (w : World) (res : Result Next) (x : AV) (T : St) : Prop :=
  ∃ u w' τ, (res = .ok (.value u) w' ∨ (res = .ok .skip w' ∧ u = undef)) ∧ x.R τ u ∧ Ok w0 τ T w' ∧ Fr σ S w τ T w'
theorem splice_get (l : List Lf) (o : Nat) (v : List Lf) (i : Nat) (h : o + v.length ≤ l.length) : (splice l o v)[i]? = if i < o then l[i]? else if i < o + v.length then v[i - o]? else l[i]? := by
  unfold splice
  have e1 : (l.take o).length = o := by rw [List.length_take]; omega
  by_cases h1 : i < o
  · rw [if_pos h1, List.append_assoc, List.getElem?_append_left (by omega), List.getElem?_take, if_pos h1]
  · rw [if_neg h1]
    by_cases h2 : i < o + v.length
    · rw [if_pos h2, List.append_assoc, List.getElem?_append_right (by omega), e1, List.getElem?_append_left (by omega)]
    · rw [if_neg h2, List.getElem?_append_right (by rw [List.length_append]; omega), List.length_append, e1, List.getElem?_drop]
      congr 1
      omega
theorem splice_len (l : List Lf) (o : Nat) (v : List Lf) (h : o + v.length ≤ l.length) : (splice l o v).length = l.length := by
  unfold splice
  rw [List.length_append, List.length_append, List.length_take, List.length_drop]
  omega
noncomputable def evStore (P : Program) (S : St) (t : TypeId) (a x : Option AV) : Option St := match a, x with
  | some (.e (.lf (.p (some (n, o))))), some x => match S.H.get n with
    | some (.cells l tt ex) => match x.cells with
      | some v => match P.info? t with
        | some i => bif Nat.beq v.length i.size && Nat.ble (o + v.length) l.length then (match Tr.upd (some (.cells (splice l o v) tt ex)) purse S.H n with
            | some H' => some ⟨H', S.nx⟩
            | none => none) else none
        | none => none
      | none => none
    | _ => none
  | _, _ => none
theorem evStore_ok {t : TypeId} {a x : Option AV} {u v : Value} {T : St} (h : Ok w0 σ S w) (ha : ∀ y, a = some y → y.R σ u) (hx : ∀ y, x = some y → y.R σ v) (hs : evStore P S t a x = some T) :
    ∃ w', (Instr.storeAt t u v).run P w = .ok () w' ∧ Ok w0 σ T w' ∧ Fr σ S w σ T w' := by
  unfold evStore at hs
  split at hs
  · rename_i n o x
    obtain ⟨ad, ⟨B, hB, rfl⟩, rfl⟩ := ha _ rfl
    split at hs
    · rename_i l tt ex hn
      cases hc : x.cells with
      | none => rw [hc] at hs; cases hs
      | some vl =>
        rw [hc] at hs
        dsimp only at hs
        cases hi : P.info? t with
        | none => rw [hi] at hs; cases hs
        | some i =>
          rw [hi] at hs
          dsimp only at hs
          cases hb : (Nat.beq vl.length i.size && Nat.ble (o + vl.length) l.length) with
          | false => rw [hb] at hs; cases hs
          | true =>
            rw [hb] at hs
            simp only [cond_true] at hs
            simp only [Bool.and_eq_true] at hb
            have h1 := Nat.eq_of_beq_eq_true hb.1
            have h2 := Nat.le_of_ble_eq_true hb.2
            cases hu : Tr.upd (some (.cells (splice l o vl) tt ex)) purse S.H n with
            | none => rw [hu] at hs; cases hs
            | some H' =>
              rw [hu] at hs
              obtain rfl := Option.some.inj hs
              have hRL := AV.cells_R hc (hx x rfl)
              have hvl : v.cells.size = vl.length := by rw [RL_len hRL, Array.length_toList]
              obtain ⟨C, hC, c2, c3, cs, fz, k1, k2, k3, k4, k5, k6⟩ := h.live n _ hn
              obtain rfl := Option.some.inj (hB.symm.trans hC)
              have hlen : v.cells.toList.length = vl.length := by rw [Array.length_toList, hvl]
              have hst := run_storeCells_cells (P := P) B.b (B.base + o) v.cells.toList 0 w (fun j hj => by
                  rw [hlen] at hj
                  rw [cell_at k1, Array.getElem?_eq_getElem (by omega)]
                  rfl) (fun j hj => by
                  rw [hlen] at hj
                  have := k3 (B.base + o + 0 + j) (by omega)
                  simp only [World.frozen?, k1]
                  simpa using this) (RL_one hRL)
              rw [Nat.add_zero] at hst
              obtain ⟨f1, f2, f3, ds, f4, f5, f6⟩ := setCells_facts B.b tt fz v.cells.toList (B.base + o) w cs k1
              refine ⟨w.setCells B.b (B.base + o) v.cells.toList, ?_, h.turn hn hB hu f1 f2 f3 ⟨ds, fz, f4, f5.trans k2, k3, by rw [splice_len l o vl h2]; exact k4, fun e => by rw [splice_len l o vl h2]; exact k5 e, fun j y hj => ?_⟩⟩
              · have hne : ¬ (v.cells.size ≠ i.size) := by omega
                simp [Instr.storeAt, Instr.sureAddr, storeVar, sizeOf, typeInfo, hi, hne, hst]
              · rw [splice_get l o vl j h2] at hj
                by_cases e1 : j < o
                · rw [if_pos e1] at hj
                  obtain ⟨z, m1, m2⟩ := k6 j y hj
                  exact ⟨z, by rw [(f6 _).1 (by omega)]; exact m1, m2⟩
                · rw [if_neg e1] at hj
                  by_cases e2 : j < o + vl.length
                  · rw [if_pos e2] at hj
                    obtain ⟨z, m1, m2⟩ := RL_get hRL _ _ hj
                    refine ⟨z, ?_, m2⟩
                    rw [(f6 _).2 (by omega) (by omega) (by omega)]
                    rw [show B.base + j - (B.base + o) = j - o by omega]
                    exact m1
                  · rw [if_neg e2] at hj
                    obtain ⟨z, m1, m2⟩ := k6 j y hj
                    exact ⟨z, by rw [(f6 _).1 (by omega)]; exact m1, m2⟩
    · cases hs
  · cases hs
end
end Go.Proofs.YtffccgnhdpjlaaaGreatDoor.Ev
