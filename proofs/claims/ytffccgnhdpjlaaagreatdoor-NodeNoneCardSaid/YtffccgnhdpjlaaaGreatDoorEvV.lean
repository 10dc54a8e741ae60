/- Regions of open order: what the runner makes of them holds in every order. -/
import Derived.Test.YtffccgnhdpjlaaaGreatDoorEvU
set_option linter.unusedVariables false
set_option linter.unusedSimpArgs false
namespace Go.Proofs.YtffccgnhdpjlaaaGreatDoor.Ev
open Go Go.RowKit
/-! ### what is seen without a run -/
structure StatF (ops : Array Oper) (ms : List Nat) : Prop where
  t1 : ∀ i o, ops[i]? = some o → ∀ e ∈ o.after.toList, Region.binds .any e = true → e.on < i
  t2 : ∀ i j t, i < j → dstOf ops i = some t → dstOf ops j ≠ some t
  t3 : ∀ i o t, ops[i]? = some o → Operand.tmp t ∈ o.op.operands → ∀ j, dstOf ops j = some t → j = i ∨ (j < i ∧ bit (ms.getD i 0) j = true) ∨ (i < j ∧ bit (ms.getD j 0) i = true)
  t4 : ∀ i o g b, ops[i]? = some o → o.guard = some (g, b) → g < i ∧ bit (ms.getD i 0) g = true
theorem apartFrom_ok {t : Tmp} {ms : List Nat} {i : Nat} : ∀ {l : List Oper} {j : Nat}, apartFrom t ms i l j = true → ∀ (k : Nat) (o : Oper), l[k]? = some o → o.dst = some t → j + k = i ∨ (j + k < i ∧ bit (ms.getD i 0) (j + k) = true) ∨ (i < j + k ∧ bit (ms.getD (j + k) 0) i = true)
  | [], _, _, k, o, hk, _ => by simp at hk
  | q :: l, j, h, k, o, hk, ho => by
    unfold apartFrom at h
    simp only [Bool.and_eq_true] at h
    cases k with
    | zero =>
      simp only [List.getElem?_cons_zero, Option.some.injEq] at hk
      subst hk
      have h1 := h.1
      rw [ho] at h1
      dsimp only at h1
      rw [show Nat.beq t t = true from Nat.beq_refl t, cond_true] at h1
      simp only [Bool.or_eq_true, Bool.and_eq_true] at h1
      rw [Nat.add_zero]
      rcases h1 with (h1 | h1) | h1
      · exact Or.inl (Nat.eq_of_beq_eq_true h1)
      · exact Or.inr (Or.inl ⟨Nat.le_of_ble_eq_true h1.1, h1.2⟩)
      · exact Or.inr (Or.inr ⟨Nat.le_of_ble_eq_true h1.1, h1.2⟩)
    | succ k =>
      simp only [List.getElem?_cons_succ] at hk
      have := apartFrom_ok h.2 k o hk ho
      rw [show j + (k + 1) = j + 1 + k by omega]
      exact this
theorem newDst_ok {d : Tmp} : ∀ {l : List Oper}, newDst d l = true → ∀ (k : Nat) (o : Oper), l[k]? = some o → o.dst ≠ some d
  | [], _, k, o, hk => by simp at hk
  | q :: l, h, k, o, hk => by
    unfold newDst at h
    simp only [Bool.and_eq_true] at h
    cases k with
    | zero =>
      simp only [List.getElem?_cons_zero, Option.some.injEq] at hk
      subst hk
      intro hd
      have h1 := h.1
      rw [hd] at h1
      dsimp only at h1
      rw [show Nat.beq d d = true from Nat.beq_refl d] at h1
      cases h1
    | succ k =>
      simp only [List.getElem?_cons_succ] at hk
      exact newDst_ok h.2 k o hk
theorem tmpsOk_ok {all : List Oper} {ms : List Nat} {i : Nat} : ∀ {l : List Operand}, tmpsOk all ms i l = true → ∀ t, Operand.tmp t ∈ l → apartFrom t ms i all 0 = true
  | [], _, t, h => by cases h
  | x :: l, h, t, hm => by
    rcases List.mem_cons.1 hm with rfl | hm
    · unfold tmpsOk at h
      simp only [Bool.and_eq_true] at h
      exact h.1
    · have : tmpsOk all ms i l = true := by
        cases x with
        | tmp u => unfold tmpsOk at h; simp only [Bool.and_eq_true] at h; exact h.2
        | const v => exact h
        | global g => exact h
        | func f => exact h
      exact tmpsOk_ok this t hm
theorem statRun_ok {all : List Oper} {ms : List Nat} : ∀ {l : List Oper} {i : Nat}, statRun all ms l i = true → ∀ (k : Nat) (o : Oper), l[k]? = some o →
    (∀ e ∈ o.after.toList, Region.binds .any e = true → e.on < i + k) ∧ (∀ d, o.dst = some d → ∀ k' o', k < k' → l[k']? = some o' → o'.dst ≠ some d) ∧ (∀ t, Operand.tmp t ∈ o.op.operands → apartFrom t ms (i + k) all 0 = true) ∧ ∀ g b, o.guard = some (g, b) → g < i + k ∧ bit (ms.getD (i + k) 0) g = true
  | [], _, _, k, o, hk => by simp at hk
  | q :: l, i, h, k, o, hk => by
    unfold statRun at h
    simp only [Bool.and_eq_true] at h
    obtain ⟨⟨⟨⟨h1, h2⟩, h3⟩, h4⟩, h5⟩ := h
    cases k with
    | zero =>
      simp only [List.getElem?_cons_zero, Option.some.injEq] at hk
      subst hk
      rw [Nat.add_zero]
      refine ⟨fun e he hb => ?_, fun d hd k' o' hk' ho' => ?_, fun t ht => tmpsOk_ok h3 t (by simpa using ht), fun g b hg => ?_⟩
      · have := List.all_eq_true.1 h1 e he
        rw [hb] at this
        simpa using this
      · rw [hd] at h2
        cases k' with
        | zero => exact absurd hk' (Nat.lt_irrefl _)
        | succ k' =>
          simp only [List.getElem?_cons_succ] at ho'
          exact newDst_ok h2 k' o' ho'
      · rw [hg] at h4
        simp only [Bool.and_eq_true] at h4
        exact ⟨Nat.le_of_ble_eq_true h4.1, h4.2⟩
    | succ k =>
      simp only [List.getElem?_cons_succ] at hk
      obtain ⟨k1, k2, k3, k4⟩ := statRun_ok h5 k o hk
      rw [show i + (k + 1) = i + 1 + k by omega]
      refine ⟨k1, fun d hd k' o' hk' ho' => ?_, k3, k4⟩
      cases k' with
      | zero => omega
      | succ k' =>
        simp only [List.getElem?_cons_succ] at ho'
        exact k2 d hd k' o' (by omega) ho'
theorem dstOf_some {ops : Array Oper} {j : Nat} {t : Tmp} (h : dstOf ops j = some t) : ∃ o, ops[j]? = some o ∧ o.dst = some t := by
  unfold dstOf at h
  cases ho : ops[j]? with
  | none => rw [ho] at h; cases h
  | some o => rw [ho] at h; exact ⟨o, rfl, h⟩
theorem dstOf_of {ops : Array Oper} {j : Nat} {o : Oper} (h : ops[j]? = some o) : dstOf ops j = o.dst := by
  unfold dstOf
  rw [h]
theorem statF {ops : Array Oper} {ms : List Nat} (h : statRun ops.toList ms ops.toList 0 = true) : StatF ops ms := by
  have hk : ∀ i o, ops[i]? = some o → _ := fun i o ho => statRun_ok h i o (by simpa using ho)
  refine ⟨fun i o ho e he hb => ?_, fun i j t hij hi hj => ?_, fun i o t ho ht j hj => ?_, fun i o g b ho hg => ?_⟩
  · have := (hk i o ho).1 e he hb
    omega
  · obtain ⟨oi, h1, h2⟩ := dstOf_some hi
    obtain ⟨oj, h3, h4⟩ := dstOf_some hj
    exact (hk i oi h1).2.1 t h2 j oj hij (by simpa using h3) h4
  · obtain ⟨oj, h3, h4⟩ := dstOf_some hj
    have h5 := (hk i o ho).2.2.1 t ht
    rw [Nat.zero_add] at h5
    have h6 := apartFrom_ok h5 j oj (by simpa using h3) h4
    rw [Nat.zero_add] at h6
    exact h6
  · have := (hk i o ho).2.2.2 g b hg
    rw [Nat.zero_add] at this
    exact this
/-! ### the frame along the list -/
theorem setT_spec {n : Nat} {R R' : Tr AV} {d : Option Tmp} {x : AV} (h : setT n R d x = some R') : (∀ t, R'.get t = if d = some t then some x else R.get t) ∧ ∀ t, d = some t → t < n := by
  cases d with
  | none =>
    obtain rfl := Option.some.inj h
    exact ⟨fun t => by simp, fun t ht => by cases ht⟩
  | some d =>
    unfold setT at h
    dsimp only at h
    cases hd : Nat.blt d n with
    | false => rw [hd] at h; cases h
    | true =>
      rw [hd, cond_true, fAV_eq] at h
      refine ⟨fun t => ?_, fun t ht => ?_⟩
      · rw [Tr.get_upd _ _ _ _ _ h]
        by_cases e : t = d
        · rw [if_pos e, if_pos (by rw [e])]
        · rw [if_neg e, if_neg (fun he => e (Option.some.inj he).symm)]
      · obtain rfl := Option.some.inj ht
        exact Nat.le_of_ble_eq_true hd
theorem put_get {a : Act} {d : Option Tmp} {u : Value} {t : Tmp} (hlt : ∀ t, d = some t → t < a.tmps.size) : (a.put d u).tmps.getD t undef = if d = some t then u else a.tmps.getD t undef := by
  cases d with
  | none => simp [Act.put]
  | some d =>
    by_cases e : d = t
    · subst e
      have := hlt d rfl
      simp [Act.put, Array.getD_eq_getD_getElem?, this]
    · rw [if_neg (fun he => e (Option.some.inj he))]
      simp [Act.put, Array.getD_eq_getD_getElem?, Array.getElem?_setIfInBounds, e]
theorem put_size (a : Act) (d : Option Tmp) (u : Value) : (a.put d u).tmps.size = a.tmps.size := by cases d <;> simp [Act.put]
section
variable {P : Program} {K : Kt} {F : Doer} {n : Nat} {ops : Array Oper} {base : Nat} {ms : List Nat} {fin : Fin2} {Rs : Nat → Tr AV}
/-- What an operation gives its place. -/
theorem OpF.gives {i : Nat} {o : Oper} {R R' : Tr AV} (h : OpF P K F n ops base ms fin i o R R') : ∃ x, setT n R o.dst x = some R' := by
  rcases h with ⟨-, h, -⟩ | ⟨-, -, r, -, h, -⟩ | ⟨-, -, m, s, s', H, x, -, -, -, -, h, -⟩
  · exact ⟨_, h⟩
  · cases r with
    | v x => exact ⟨x, h⟩
    | nw k ob => exact ⟨_, h⟩
  · exact ⟨x, h⟩
noncomputable def Steps1 (n : Nat) (ops : Array Oper) (Rs : Nat → Tr AV) : Prop := ∀ i o, ops[i]? = some o → ∃ x, setT n (Rs i) o.dst x = some (Rs (i + 1))
theorem Rs_before (h : Steps1 n ops Rs) {t : Tmp} : ∀ k, k ≤ ops.size → (∀ j, j < k → dstOf ops j ≠ some t) → (Rs k).get t = (Rs 0).get t
  | 0, _, _ => rfl
  | k + 1, hk, hd => by
    have hlt : k < ops.size := by omega
    obtain ⟨x, hx⟩ := h k _ (Array.getElem?_eq_getElem hlt)
    rw [(setT_spec hx).1 t, if_neg (fun e => hd k (Nat.lt_succ_self k) ((dstOf_of (Array.getElem?_eq_getElem hlt)).trans e))]
    exact Rs_before h k (by omega) fun j hj => hd j (by omega)
theorem Rs_after (h : Steps1 n ops Rs) {t : Tmp} : ∀ d k, k + d = ops.size → (∀ j, k ≤ j → dstOf ops j ≠ some t) → (Rs ops.size).get t = (Rs k).get t
  | 0, k, hk, _ => by rw [← hk, Nat.add_zero]
  | d + 1, k, hk, hd => by
    have hlt : k < ops.size := by omega
    obtain ⟨x, hx⟩ := h k _ (Array.getElem?_eq_getElem hlt)
    rw [Rs_after h d (k + 1) (by omega) fun j hj => hd j (by omega)]
    rw [(setT_spec hx).1 t, if_neg (fun e => hd k (Nat.le_refl k) ((dstOf_of (Array.getElem?_eq_getElem hlt)).trans e))]
/-- What a place holds when some have run. -/
noncomputable def Cur (ops : Array Oper) (Rs : Nat → Tr AV) (L : Nat → Bool) (t : Tmp) (x : AV) : Prop :=
  (∃ j, dstOf ops j = some t ∧ L j = true ∧ (Rs ops.size).get t = some x) ∨ ((∀ j, dstOf ops j = some t → L j = false) ∧ (Rs 0).get t = some x)
theorem dst_lt {j : Nat} {t : Tmp} (h : dstOf ops j = some t) : j < ops.size := by
  obtain ⟨o, ho, -⟩ := dstOf_some h
  exact (Array.getElem?_eq_some_iff.1 ho).1
/-- Places that an operation looks at. -/
theorem Cur.of (hS : StatF ops ms) (h1 : Steps1 n ops Rs) {L : Nat → Bool} {i : Nat} (hi : i < ops.size) (hLi : L i = false) (hA : ∀ k, bit (ms.getD i 0) k = true → L k = true) (hD : ∀ j oj, ops[j]? = some oj → L j = true → ∀ k, bit (ms.getD j 0) k = true → L k = true) {t : Tmp} {x : AV}
    (hap : ∀ j, dstOf ops j = some t → j = i ∨ (j < i ∧ bit (ms.getD i 0) j = true) ∨ (i < j ∧ bit (ms.getD j 0) i = true)) (hx : (Rs i).get t = some x) : Cur ops Rs L t x := by
  by_cases hd : ∃ j, dstOf ops j = some t
  · obtain ⟨j, hj⟩ := hd
    have uniq : ∀ k, dstOf ops k = some t → k = j := fun k hk => by
      rcases Nat.lt_trichotomy k j with h | h | h
      · exact absurd hj (hS.t2 k j t h hk)
      · exact h
      · exact absurd hk (hS.t2 j k t h hj)
    have late : i ≤ j → L j = false → Cur ops Rs L t x := fun hij hLj => by
      refine Or.inr ⟨fun k hk => by rw [uniq k hk]; exact hLj, ?_⟩
      rw [← Rs_before h1 i (by omega) fun k hk hdk => by have := uniq k hdk; omega]
      exact hx
    rcases hap j hj with rfl | ⟨h2, h3⟩ | ⟨h2, h3⟩
    · exact late (Nat.le_refl _) hLi
    · refine Or.inl ⟨j, hj, hA j h3, ?_⟩
      rw [Rs_after h1 (ops.size - i) i (by omega) fun k hk hdk => by have := uniq k hdk; omega]
      exact hx
    · refine late (Nat.le_of_lt h2) ?_
      cases hLj : L j with
      | false => rfl
      | true =>
        obtain ⟨oj, hoj, -⟩ := dstOf_some hj
        have := hD j oj hoj hLj i h3
        rw [hLi] at this
        cases this
  · refine Or.inr ⟨fun j hj => absurd ⟨j, hj⟩ hd, ?_⟩
    rw [← Rs_before h1 i (by omega) fun k hk hdk => hd ⟨k, hdk⟩]
    exact hx
/-- And when one more has run. -/
theorem Cur.next (hS : StatF ops ms) (h1 : Steps1 n ops Rs) {L L' : Nat → Bool} {i : Nat} {o : Oper} (ho : ops[i]? = some o) (hL : ∀ j, L' j = true ↔ (L j = true ∨ j = i)) {x : AV} (hx : setT n (Rs i) o.dst x = some (Rs (i + 1))) {σ : Sg} {a : Act} (hn : a.tmps.size = n) {u : Value} (hu : x.R σ u)
    (hT : ∀ t y, Cur ops Rs L t y → y.R σ (a.tmps.getD t undef)) : ∀ t y, Cur ops Rs L' t y → y.R σ ((a.put o.dst u).tmps.getD t undef) := by
  intro t y hc
  have hsp := setT_spec hx
  rw [put_get fun t ht => by rw [hn]; exact hsp.2 t ht]
  have hi : i < ops.size := (Array.getElem?_eq_some_iff.1 ho).1
  by_cases hd : o.dst = some t
  · rw [if_pos hd]
    have hdi : dstOf ops i = some t := (dstOf_of ho).trans hd
    have hy : (Rs ops.size).get t = some x := by
      rw [Rs_after h1 (ops.size - (i + 1)) (i + 1) (by omega) fun k hk => hS.t2 i k t hk hdi, hsp.1 t, if_pos hd]
    rcases hc with ⟨j, -, -, h2⟩ | ⟨h2, -⟩
    · rw [hy] at h2
      obtain rfl := Option.some.inj h2
      exact hu
    · have := h2 i hdi
      rw [(hL i).2 (Or.inr rfl)] at this
      cases this
  · rw [if_neg hd]
    refine hT t y ?_
    rcases hc with ⟨j, h2, h3, h4⟩ | ⟨h2, h3⟩
    · rcases (hL j).1 h3 with h5 | rfl
      · exact Or.inl ⟨j, h2, h5, h4⟩
      · exact absurd ((dstOf_of ho).symm.trans h2) hd
    · refine Or.inr ⟨fun j hj => ?_, h3⟩
      cases hLj : L j with
      | false => rfl
      | true =>
        have := h2 j hj
        rw [(hL j).2 (Or.inl hLj)] at this
        cases this
/-- What one looks at only. -/
noncomputable def only (o : Oper) (ρ : Operand → Option AV) : Operand → Option AV := fun x => open Classical in if x ∈ o.op.operands then ρ x else none
theorem only_eq (o : Oper) (ρ : Operand → Option AV) : ∀ x ∈ o.op.operands, ρ x = only o ρ x := fun x hx => by unfold only; rw [if_pos hx]
theorem only_HA (hS : StatF ops ms) (h1 : Steps1 n ops Rs) {L : Nat → Bool} {i : Nat} {o : Oper} (ho : ops[i]? = some o) (hLi : L i = false) (hA : ∀ k, bit (ms.getD i 0) k = true → L k = true) (hD : ∀ j oj, ops[j]? = some oj → L j = true → ∀ k, bit (ms.getD j 0) k = true → L k = true) {σ : Sg} {a : Act}
    (hT : ∀ t y, Cur ops Rs L t y → y.R σ (a.tmps.getD t undef)) : HA σ (only o (rho (Rs i))) a.eval := by
  intro x y hx
  unfold only at hx
  by_cases hm : x ∈ o.op.operands
  · rw [if_pos hm] at hx
    cases x with
    | tmp t => exact hT t y (Cur.of hS h1 (Array.getElem?_eq_some_iff.1 ho).1 hLi hA hD (fun j hj => hS.t3 i o t ho hm j hj) hx)
    | const v => exact absV_R hx
    | global g =>
      obtain rfl := Option.some.inj hx
      exact ⟨rfl, rfl⟩
    | func f =>
      obtain rfl := Option.some.inj hx
      exact ⟨[], trivial, rfl⟩
  · rw [if_neg hm] at hx
    cases hx
theorem only_want (hS : StatF ops ms) (h1 : Steps1 n ops Rs) {L : Nat → Bool} {i : Nat} {o : Oper} (ho : ops[i]? = some o) (hLi : L i = false) (hA : ∀ k, bit (ms.getD i 0) k = true → L k = true) (hD : ∀ j oj, ops[j]? = some oj → L j = true → ∀ k, bit (ms.getD j 0) k = true → L k = true) {σ : Sg} {a : Act}
    (hT : ∀ t y, Cur ops Rs L t y → y.R σ (a.tmps.getD t undef)) {b : Bool} (hw : wantT ops (Rs i) o = some b) : Region.wanted o (yielded ops a.tmps) = b := by
  unfold wantT at hw
  cases hg : o.guard with
  | none =>
    rw [hg] at hw
    unfold Region.wanted
    rw [hg]
    exact Option.some.inj hw
  | some q =>
    obtain ⟨g, want⟩ := q
    rw [hg] at hw
    dsimp only at hw
    obtain ⟨hgi, hgA⟩ := hS.t4 i o g want ho hg
    have hi : i < ops.size := (Array.getElem?_eq_some_iff.1 ho).1
    have val : ∀ {y : AV} {d : Tmp}, dstOf ops g = some d → (Rs i).get d = some y → y.R σ (a.tmps.getD d undef) := fun {y d} hd hy =>
      hT d y (Or.inl ⟨g, hd, hA g hgA, by
        rw [Rs_after h1 (ops.size - i) i (by omega) fun k hk hdk => hS.t2 g k d (by omega) hd hdk]
        exact hy⟩)
    have yl : ∀ {b' : Option Bool}, yieldT ops (Rs i) g = some b' → yielded ops a.tmps g = b' := fun {b'} hy => by
      unfold yieldT at hy
      unfold yielded
      cases hj : ops[g]? with
      | none => rw [hj] at hy; cases hy
      | some og =>
        rw [hj] at hy
        dsimp only at hy
        rw [Option.bind_some]
        cases hd : og.dst with
        | none => rw [hd] at hy; cases hy
        | some d =>
          rw [hd] at hy
          dsimp only at hy
          rw [Option.bind_some]
          have hdg : dstOf ops g = some d := (dstOf_of hj).trans hd
          split at hy
          · rename_i x hR
            obtain rfl := Option.some.inj hy
            have hv : a.tmps.getD d undef = .bool x := val hdg hR
            rw [Array.getD_eq_getD_getElem?] at hv
            cases hq : a.tmps[d]? with
            | none => rw [hq] at hv; cases hv
            | some v => rw [hq] at hv; obtain rfl : v = _ := hv; rfl
          · rename_i l hR
            obtain rfl := Option.some.inj hy
            obtain ⟨vs, -, hv⟩ : (AV.tu l).R σ _ := val hdg hR
            rw [Array.getD_eq_getD_getElem?] at hv
            cases hq : a.tmps[d]? with
            | none => rfl
            | some v => rw [hq] at hv; obtain rfl : v = _ := hv; rfl
          · cases hy
    unfold Region.wanted
    rw [hg]
    dsimp only
    split at hw
    · rename_i b' hy
      rw [yl hy]
      obtain rfl := Option.some.inj hw
      cases b' <;> cases want <;> rfl
    · rename_i hy
      rw [yl hy]
      obtain rfl := Option.some.inj hw
      rfl
    · cases hw
end
end Go.Proofs.YtffccgnhdpjlaaaGreatDoor.Ev
