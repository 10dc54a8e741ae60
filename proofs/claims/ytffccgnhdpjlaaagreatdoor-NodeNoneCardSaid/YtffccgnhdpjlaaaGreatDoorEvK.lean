/- append, by the runner. -/
import Derived.Test.YtffccgnhdpjlaaaGreatDoorEvJ
import Derived.Laws.AppendOwn
set_option linter.unusedVariables false
set_option linter.unusedSimpArgs false
namespace Go.Proofs.YtffccgnhdpjlaaaGreatDoor.Ev
open Go Go.RowKit
section
variable {P : Program} {σ : Sg} {w0 w : World} {S : St}
/-- The cells of a slice: its block (if it has one), how long it is, the cells. -/
noncomputable def sliceCells (P : Program) (H : Tr AO) (e : TypeId) (x : Option AV) : Option (Option (Nat × Nat) × Nat × List Lf) := match x with
  | some (.e (.lf (.sl none _ _))) => some (none, 0, [])
  | some (.e (.lf (.sl (some (n, o)) len sz))) => match H.get n, P.info? e with
    | some (.cells l t _), some ie => bif Nat.beq ie.size sz && Nat.ble (o + len * sz) l.length && Nat.beq t e then some (some (n, o), len, (l.drop o).take (len * sz)) else none
    | _, _ => none
  | _ => none
noncomputable def evAppend (P : Program) (S : St) (t : TypeId) (a b : Option AV) : Option (AV × St) := match P.underlying t with
  | some (.slice e) => match P.info? e, zcells P e with
    | some ie, some zl => bif Nat.ble 1 ie.size && Nat.beq zl.length ie.size then
      (match sliceCells P S.H e a, sliceCells P S.H e b with
      | some (p, n, olds), some (q, m, news) => bif Nat.ble ((n + m) * ie.bytes) 1000000 && Nat.ble (n + m) 1000000 then
        (match q with
        | none => match a with
          | some x => some (x, S)
          | none => none
        | some _ => bif Nat.beq m 0 then (match a with
            | some x => some (x, S)
            | none => none) else
          match p with
          | none => (match Tr.upd (some (.cells news e false)) purse S.H S.nx with
              | some H2 => some (.e (.lf (.sl (some (S.nx, 0)) m ie.size)), ⟨H2, S.nx + 1⟩)
              | none => none)
          | some (nn, o) => (match Tr.upd none purse S.H nn with
              | some H1 => match Tr.upd (some (.cells (olds ++ news) e false)) purse H1 S.nx with
                | some H2 => some (.e (.lf (.sl (some (S.nx, 0)) (n + m) ie.size)), ⟨H2, S.nx + 1⟩)
                | none => none
              | none => none)) else none
      | _, _ => none) else none
    | _, _ => none
  | _ => none
/-- What the machine has of them. -/
theorem sliceCells_ok {H : Tr AO} {e : TypeId} {x : Option AV} {v : Value} {p : Option (Nat × Nat)} {n : Nat} {l : List Lf} (hL : LiveAt σ H w) (hx : ∀ a, x = some a → a.R σ v) (h : sliceCells P H e x = some (p, n, l)) :
    (p = none ∧ n = 0 ∧ l = [] ∧ v = .slice none 0 0) ∨ ∃ nn o B ie vs lf ex, p = some (nn, o) ∧ H.get nn = some (.cells lf e ex) ∧ σ nn = some B ∧ P.info? e = some ie ∧ l.length = n * ie.size ∧ o + n * ie.size ≤ lf.length ∧ RL σ l vs ∧
      ((∃ c, v = .slice (some ⟨B.b, B.base + o, none⟩) n c ∧ B.base + o + c * ie.size = B.tot ∧ n ≤ c ∧ ∀ j u, vs[j]? = some u → w.cell? ((⟨B.b, B.base + o, none⟩ : Addr).add j) = some u) ∨ (n = 0 ∧ ∃ u, v = .slice (some u) 0 0)) := by
  unfold sliceCells at h
  split at h
  · obtain ⟨rfl, -⟩ := hx _ rfl
    simp only [Option.some.injEq, Prod.mk.injEq] at h
    obtain ⟨rfl, rfl, rfl⟩ := h
    exact Or.inl ⟨rfl, rfl, rfl, rfl⟩
  · rename_i nn o len sz
    obtain ⟨B, hB, hv⟩ := hx _ rfl
    split at h
    · rename_i lf t ex ie hn hie
      cases hc : (Nat.beq ie.size sz && Nat.ble (o + len * sz) lf.length && Nat.beq t e) with
      | false => rw [hc] at h; cases h
      | true =>
        rw [hc] at h
        simp only [cond_true, Option.some.injEq, Prod.mk.injEq] at h
        obtain ⟨rfl, rfl, rfl⟩ := h
        simp only [Bool.and_eq_true] at hc
        have h1 := Nat.eq_of_beq_eq_true hc.1.1
        have h2 := Nat.le_of_ble_eq_true hc.1.2
        have h3 := Nat.eq_of_beq_eq_true hc.2
        subst h1
        subst h3
        obtain ⟨C, hC, cs, fz, k1, k2, k3, k4, k5, k6⟩ := hL nn _ hn
        obtain rfl := Option.some.inj (hB.symm.trans hC)
        have hll : ((lf.drop o).take (len * ie.size)).length = len * ie.size := by rw [List.length_take, List.length_drop]; omega
        have hvl : ((cs.toList.drop (B.base + o)).take (len * ie.size)).length = len * ie.size := by rw [List.length_take, List.length_drop, Array.length_toList]; omega
        refine Or.inr ⟨nn, o, B, ie, (cs.toList.drop (B.base + o)).take (len * ie.size), lf, ex, rfl, hn, hB, hie, hll, h2, RL_of (by rw [hll, hvl]) fun j x hj => ?_, ?_⟩
        · rw [List.getElem?_take] at hj ⊢
          split at hj
          · rename_i hlt
            rw [List.getElem?_drop] at hj
            obtain ⟨z, m1, m2⟩ := k6 _ _ hj
            exact ⟨z, by rw [if_pos hlt, List.getElem?_drop, Array.getElem?_toList, Nat.add_assoc]; exact m1, m2⟩
          · cases hj
        · rcases hv with ⟨c, rfl, b1, b2⟩ | ⟨rfl, u, rfl⟩
          · refine Or.inl ⟨c, rfl, b1, b2, fun j u hj => ?_⟩
            rw [List.getElem?_take] at hj
            split at hj
            · rw [List.getElem?_drop, Array.getElem?_toList] at hj
              rw [add_at, cell_at k1]
              exact hj
            · cases hj
          · exact Or.inr ⟨rfl, u, rfl⟩
    · cases h
  · cases h
/-- A new row of which only the beginning is told. -/
theorem open_R {W : World} {l : List Lf} {vs : List Value} {cs : Array Value} {t : TypeId} (hW : W.heap = w.heap.push (.cells cs t)) (h : RL σ l vs) (hcs : ∃ r, cs.toList = vs ++ r) : (AO.cells l t false).R σ W ⟨w.heap.size, 0, cs.size, nov⟩ := by
  obtain ⟨r, hr⟩ := hcs
  have hl := RL_len h
  have hsz : cs.size = vs.length + r.length := by rw [← Array.length_toList, hr, List.length_append]
  refine ⟨cs, (0, 0), push_new hW, rfl, fun i _ hi => by omega, by show 0 + l.length ≤ cs.size; omega, (fun e => by cases e), fun i x hx => ?_⟩
  obtain ⟨v, m1, m2⟩ := RL_get h i x hx
  have hi : i < vs.length := (List.getElem?_eq_some_iff.1 m1).1
  exact ⟨v, by rw [Nat.zero_add, ← Array.getElem?_toList, hr, List.getElem?_append_left hi]; exact m1, m2⟩
theorem evAppend_ok {t ty : TypeId} {a b : Option AV} {u v : Value} {x : AV} {T : St} (h : Ok w0 σ S w) (ha : ∀ y, a = some y → y.R σ u) (hb : ∀ y, b = some y → y.R σ v) (he : evAppend P S t a b = some (x, T)) :
    ∃ r w' τ, (Builtin.append_ #[t, t] ty #[u, v]).run P w = .ok r w' ∧ x.R τ r ∧ Ok w0 τ T w' ∧ Fr σ S w τ T w' := by
  unfold evAppend at he
  split at he
  · rename_i e ht
    split at he
    · rename_i ie zl hie hz
      cases hc0 : (Nat.ble 1 ie.size && Nat.beq zl.length ie.size) with
      | false => rw [hc0] at he; cases he
      | true =>
        rw [hc0] at he
        simp only [cond_true] at he
        simp only [Bool.and_eq_true] at hc0
        have hs1 := Nat.le_of_ble_eq_true hc0.1
        have hs2 := Nat.eq_of_beq_eq_true hc0.2
        obtain ⟨i', z, hi', hzz, hzl⟩ := zeros_ok hz
        obtain rfl := Option.some.inj (hie.symm.trans hi')
        split at he
        · rename_i p n olds q m news hp hq
          cases hc1 : (Nat.ble ((n + m) * ie.bytes) 1000000 && Nat.ble (n + m) 1000000) with
          | false => rw [hc1] at he; cases he
          | true =>
            rw [hc1] at he
            simp only [cond_true] at he
            simp only [Bool.and_eq_true] at hc1
            have hb1 := Nat.le_of_ble_eq_true hc1.1
            have hb2 := Nat.le_of_ble_eq_true hc1.2
            have hP := sliceCells_ok h.liveAt ha hp
            have hQ := sliceCells_ok h.liveAt hb hq
            have nothing : ∀ {v : Value}, v = .slice none 0 0 ∨ (∃ d c, v = .slice (some d) 0 c) → ∀ y, a = some y → (y, S) = (x, T) → ∃ r w' τ, (Builtin.append_ #[t, t] ty #[u, v]).run P w = .ok r w' ∧ x.R τ r ∧ Ok w0 τ T w' ∧ Fr σ S w τ T w' := fun {v} hv y hy hxy => by
              simp only [Prod.mk.injEq] at hxy
              obtain ⟨rfl, rfl⟩ := hxy
              refine ⟨u, w, σ, ?_, ha y hy, h, Fr.refl σ S w⟩
              have hu : u = .slice none 0 0 ∨ ∃ d n c, u = .slice (some d) n c ∧ n ≤ c := by
                rcases hP with ⟨-, -, -, rfl⟩ | ⟨nn, o, B, ie', vs, lf, ex, -, -, -, -, -, -, -, hv⟩
                · exact Or.inl rfl
                · rcases hv with ⟨c, rfl, -, h2, -⟩ | ⟨-, d, rfl⟩
                  · exact Or.inr ⟨_, _, _, rfl, h2⟩
                  · exact Or.inr ⟨_, _, _, rfl, Nat.le_refl _⟩
              rcases hu with rfl | ⟨d, n', c', rfl, hnc⟩ <;> rcases hv with rfl | ⟨d', c2, rfl⟩ <;>
                simp [Builtin.append_, run_underlying ht, sizeOf, typeInfo, hie, Builtin.lenOf, Builtin.firstCells, loadCells, loadCellsFrom, storeCells, *]
            rcases hQ with ⟨rfl, rfl, rfl, rfl⟩ | ⟨nq, oq, Bq, ieq, vq, lq, exq, rfl, q1, q2, q3, q4, q5, q6, q7⟩
            · dsimp only at he
              cases hA : a with
              | none => rw [hA] at he; cases he
              | some y => rw [hA] at he; exact nothing (Or.inl rfl) y hA (Option.some.inj he)
            · dsimp only at he
              obtain rfl := Option.some.inj (hie.symm.trans q3)
              cases hm : Nat.beq m 0 with
              | true =>
                rw [hm] at he
                simp only [cond_true] at he
                have hm0 := Nat.eq_of_beq_eq_true hm
                subst hm0
                cases hA : a with
                | none => rw [hA] at he; cases he
                | some y =>
                  rw [hA] at he
                  refine nothing (Or.inr ?_) y hA (Option.some.inj he)
                  rcases q7 with ⟨c, rfl, -⟩ | ⟨-, d, rfl⟩
                  · exact ⟨_, _, rfl⟩
                  · exact ⟨_, _, rfl⟩
              | false =>
                rw [hm] at he
                simp only [cond_false] at he
                have hm0 : 0 < m := Nat.pos_of_ne_zero (Nat.ne_of_beq_eq_false hm)
                obtain ⟨cq, rfl, -, -, q8⟩ : ∃ c, v = .slice (some ⟨Bq.b, Bq.base + oq, none⟩) m c ∧ Bq.base + oq + c * ie.size = Bq.tot ∧ m ≤ c ∧ ∀ j u, vq[j]? = some u → w.cell? ((⟨Bq.b, Bq.base + oq, none⟩ : Addr).add j) = some u := by
                  rcases q7 with h | ⟨h0, -⟩
                  · exact h
                  · omega
                have hvq : vq.length = m * ie.size := by rw [← RL_len q6, q4]
                rcases hP with ⟨rfl, rfl, rfl, rfl⟩ | ⟨np, op, Bp, iep, vp, lp, exp, rfl, p1, p2, p3, p4, p5, p6, p7⟩
                · dsimp only at he
                  cases hu2 : Tr.upd (some (.cells news e false)) purse S.H S.nx with
                  | none => rw [hu2] at he; cases he
                  | some H2 =>
                    rw [hu2] at he
                    simp only [Option.some.injEq, Prod.mk.injEq] at he
                    obtain ⟨rfl, rfl⟩ := he
                    have hr := run_append_nil (P := P) w t ty e ie z ht hie hzz ⟨Bq.b, Bq.base + oq, none⟩ m cq vq hvq q8 hm0 (by omega) (by have := hb1; rw [Nat.zero_add] at this; omega)
                    have hge := grownCap_ge w m 0 e
                    generalize hG : grownCap w m 0 e = G at hr hge
                    have hzs : (Builtin.zeroCells z.cells (G - m)).size = (G - m) * ie.size := by
                      have hzc : z.cells.size = ie.size := by rw [← hs2, RL_len (hzl σ), Array.length_toList]
                      simp [Builtin.zeroCells, hzc]
                    have hW : (w.drew.alloc (.cells (vq.toArray ++ Builtin.zeroCells z.cells (G - m)) e)).heap = w.heap.push (.cells (vq.toArray ++ Builtin.zeroCells z.cells (G - m)) e) := rfl
                    have htot : (vq.toArray ++ Builtin.zeroCells z.cells (G - m)).size = G * ie.size := by
                      rw [Array.size_append, hzs, List.size_toArray, hvq, ← Nat.add_mul]
                      congr 1
                      omega
                    have hn := h.nx_none
                    have hsub := Sg.sub_put ⟨w.heap.size, 0, (vq.toArray ++ Builtin.zeroCells z.cells (G - m)).size, nov⟩ hn
                    obtain ⟨r1, r2⟩ := h.new hn (Nat.le_refl _) (Nat.le_succ _) (Nat.lt_succ_self _) hu2 hW ⟨rfl, rfl, rfl⟩ (open_R hW (q6.mono hsub) ⟨(Builtin.zeroCells z.cells (G - m)).toList, by simp⟩)
                    refine ⟨_, _, _, hr, ⟨_, Sg.put_same _ _ _, Or.inl ⟨G, rfl, ?_, hge⟩⟩, r1, r2⟩
                    show 0 + 0 + G * ie.size = (vq.toArray ++ Builtin.zeroCells z.cells (G - m)).size
                    rw [htot]
                    omega
                · dsimp only at he
                  obtain rfl := Option.some.inj (hie.symm.trans p3)
                  cases hu1 : Tr.upd none purse S.H np with
                  | none => rw [hu1] at he; cases he
                  | some H1 =>
                    rw [hu1] at he
                    dsimp only at he
                    cases hu2 : Tr.upd (some (.cells (olds ++ news) e false)) purse H1 S.nx with
                    | none => rw [hu2] at he; cases he
                    | some H2 =>
                      rw [hu2] at he
                      simp only [Option.some.injEq, Prod.mk.injEq] at he
                      obtain ⟨rfl, rfl⟩ := he
                      have hvp : vp.length = n * ie.size := by rw [← RL_len p6, p4]
                      have hn := h.nx_none
                      have grow : ∀ (d : Addr) (c : Nat), u = .slice (some d) n c → c < n + m → (∀ j x, vp[j]? = some x → w.cell? (d.add j) = some x) →
                          ∃ r w' τ, (Builtin.append_ #[t, t] ty #[u, .slice (some ⟨Bq.b, Bq.base + oq, none⟩) m cq]).run P w = .ok r w' ∧ (AV.e (.lf (.sl (some (S.nx, 0)) (n + m) ie.size))).R τ r ∧ Ok w0 τ ⟨H2, S.nx + 1⟩ w' ∧ Fr σ S w τ ⟨H2, S.nx + 1⟩ w' := fun d c hu hlt hcells => by
                        subst hu
                        have hr := run_append_grow (P := P) w t ty e ie z ht hie hzz d n c vp hvp hcells ⟨Bq.b, Bq.base + oq, none⟩ m cq vq hvq q8 hlt (by omega) (growslice_fits hlt (by omega))
                        have hge := grownCap_ge w (n + m) c e
                        generalize hG : grownCap w (n + m) c e = G at hr hge
                        have hzs : (Builtin.zeroCells z.cells (G - (n + m))).size = (G - (n + m)) * ie.size := by
                          have hzc : z.cells.size = ie.size := by rw [← hs2, RL_len (hzl σ), Array.length_toList]
                          simp [Builtin.zeroCells, hzc]
                        have hW : (w.drew.alloc (.cells (vp.toArray ++ vq.toArray ++ Builtin.zeroCells z.cells (G - (n + m))) e)).heap = w.heap.push (.cells (vp.toArray ++ vq.toArray ++ Builtin.zeroCells z.cells (G - (n + m))) e) := rfl
                        have htot : (vp.toArray ++ vq.toArray ++ Builtin.zeroCells z.cells (G - (n + m))).size = G * ie.size := by
                          rw [Array.size_append, Array.size_append, hzs, List.size_toArray, List.size_toArray, hvp, hvq, ← Nat.add_mul, ← Nat.add_mul]
                          congr 1
                          omega
                        have hk := h.kill hu1
                        have hsub := Sg.sub_put ⟨w.heap.size, 0, (vp.toArray ++ vq.toArray ++ Builtin.zeroCells z.cells (G - (n + m))).size, nov⟩ hn
                        obtain ⟨r1, r2⟩ := hk.new hn (Nat.le_refl _) (Nat.le_succ _) (Nat.lt_succ_self _) hu2 hW ⟨rfl, rfl, rfl⟩ (open_R hW ((RL_append p6 q6).mono hsub) ⟨(Builtin.zeroCells z.cells (G - (n + m))).toList, by simp⟩)
                        refine ⟨_, _, _, hr, ⟨_, Sg.put_same _ _ _, Or.inl ⟨G, rfl, ?_, hge⟩⟩, r1, (Fr.kill hu1).trans r2⟩
                        show 0 + 0 + G * ie.size = (vp.toArray ++ vq.toArray ++ Builtin.zeroCells z.cells (G - (n + m))).size
                        rw [htot]
                        omega
                      rcases p7 with ⟨c, hu, c1, c2, c3⟩ | ⟨rfl, d, hu⟩
                      · by_cases hroom : n + m ≤ c
                        · subst hu
                          obtain ⟨C, hC, d2, d3, cs, fz, k1, k2, k3, k4, k5, k6⟩ := h.live np _ p1
                          obtain rfl := Option.some.inj (p2.symm.trans hC)
                          have hmul : n * ie.size + m * ie.size ≤ c * ie.size := by rw [← Nat.add_mul]; exact Nat.mul_le_mul_right _ hroom
                          have hr := run_append_room_cells (P := P) w t ty e ie ht hie Bp.b (Bp.base + op) n c ⟨Bq.b, Bq.base + oq, none⟩ m cq vq hvq q8 (RL_one q6) hroom
                            (fun j hj => by rw [cell_at k1, Array.getElem?_eq_getElem (by omega)]; rfl)
                            (fun j hj => by
                              have := k3 (Bp.base + op + n * ie.size + j) (by omega)
                              simp only [World.frozen?, k1]
                              simpa using this)
                          obtain ⟨f1, f2, f3, ds, f4, f5, f6⟩ := setCells_facts Bp.b e fz vq (Bp.base + op + n * ie.size) w cs k1
                          have hsub := Sg.sub_put ⟨Bp.b, Bp.base + op, Bp.tot, nov⟩ hn
                          have hR : (AO.cells (olds ++ news) e false).R (σ.put S.nx ⟨Bp.b, Bp.base + op, Bp.tot, nov⟩) (w.setCells Bp.b (Bp.base + op + n * ie.size) vq) ⟨Bp.b, Bp.base + op, Bp.tot, nov⟩ := by
                            have ll : (olds ++ news).length = n * ie.size + m * ie.size := by rw [List.length_append, p4, q4]
                            refine ⟨ds, fz, f4, f5.trans k2, k3, by show Bp.base + op + (olds ++ news).length ≤ Bp.tot; omega, (fun e => by cases e), fun i x hx => ?_⟩
                            by_cases hi : i < n * ie.size
                            · rw [List.getElem?_append_left (by omega)] at hx
                              obtain ⟨y, m1, m2⟩ := RL_get p6 i x hx
                              refine ⟨y, ?_, m2.mono hsub⟩
                              have := c3 i y m1
                              rw [add_at, cell_at k1] at this
                              rw [(f6 _).1 (Or.inl (by show Bp.base + op + i < _; omega))]
                              exact this
                            · rw [List.getElem?_append_right (by omega), p4] at hx
                              obtain ⟨y, m1, m2⟩ := RL_get q6 _ x hx
                              have hlt : i - n * ie.size < vq.length := (List.getElem?_eq_some_iff.1 m1).1
                              refine ⟨y, ?_, m2.mono hsub⟩
                              rw [(f6 _).2 (by show _ ≤ Bp.base + op + i; omega) (by show Bp.base + op + i < _; omega) (by omega)]
                              show vq[Bp.base + op + i - (Bp.base + op + n * ie.size)]? = some y
                              rw [show Bp.base + op + i - (Bp.base + op + n * ie.size) = i - n * ie.size by omega]
                              exact m1
                          obtain ⟨r1, r2⟩ := h.move p1 p2 hu1 hu2 hn (Nat.le_refl _) (Nat.le_succ _) (Nat.lt_succ_self _) f1 f2 f3 hR
                          refine ⟨_, _, _, hr, ⟨_, Sg.put_same _ _ _, Or.inl ⟨c, rfl, ?_, hroom⟩⟩, r1, r2⟩
                          show Bp.base + op + 0 + c * ie.size = Bp.tot
                          omega
                        · exact grow _ c hu (by omega) c3
                      · have hv0 : vp = [] := List.eq_nil_of_length_eq_zero (by rw [hvp]; simp)
                        exact grow d 0 hu (by omega) (fun j x hx => by rw [hv0] at hx; simp at hx)
        · cases he
    · cases he
  · cases he
end
end Go.Proofs.YtffccgnhdpjlaaaGreatDoor.Ev
