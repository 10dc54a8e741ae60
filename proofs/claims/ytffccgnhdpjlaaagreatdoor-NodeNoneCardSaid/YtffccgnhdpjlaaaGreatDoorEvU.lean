/- Regions of open order: what a run has shown of each operation. -/
import Derived.Test.YtffccgnhdpjlaaaGreatDoorEvT
set_option linter.unusedVariables false
set_option linter.unusedSimpArgs false
namespace Go.Proofs.YtffccgnhdpjlaaaGreatDoor.Ev
open Go Go.RowKit
noncomputable def nth (sts : List Stg) (m : Nat) : Option Stg := sts.reverse[m]?
theorem nth_suffix {pre l : List Stg} {m : Nat} (h : m < l.length) : nth (pre ++ l) m = nth l m := by
  unfold nth
  rw [List.reverse_append, List.getElem?_append_left (by simpa using h)]
theorem nth_top (s : Stg) (l : List Stg) : nth (s :: l) l.length = some s := by
  unfold nth
  rw [List.reverse_cons, List.getElem?_append_right (by simp)]
  simp
theorem nth_mem {sts : List Stg} {m : Nat} {s : Stg} (h : nth sts m = some s) : s ∈ sts := by
  have := List.mem_of_getElem? h
  simpa using this
theorem nth_lt {sts : List Stg} {m : Nat} {s : Stg} (h : nth sts m = some s) : m < sts.length := by
  have := (List.getElem?_eq_some_iff.1 h).1
  simpa using this
noncomputable def HSub (base a : Nat) (al : List (Nat × AO)) (s : Stg) (H : Tr AO) : Prop := ∀ nm ob, H.get nm = some ob → s.C.get nm = some ob ∨ ∃ j, (j, ob) ∈ al ∧ nm = base + j ∧ bit a j = true ∧ bit s.M j = false
section
variable (P : Program) (K : Kt) (F : Doer) (n : Nat) (ops : Array Oper) (base : Nat) (ms : List Nat)
noncomputable def OpF (fin : Fin2) (i : Nat) (o : Oper) (R R' : Tr AV) : Prop :=
  (wantT ops R o = some false ∧ setT n R o.dst (.tu []) = some R' ∧ (∀ ob, (i, ob) ∉ fin.al) ∧ bit fin.s.hd i = false) ∨
  (wantT ops R o = some true ∧ bit fin.s.hd i = false ∧ ∃ r, (∀ s ∈ fin.sts, valid fin.s.hd (ms.getD i 0) i s = true → ∃ H, HSub base (ms.getD i 0) fin.al s H ∧ evRead P K H (rho R) o = some r) ∧ setS n base i R o.dst r = some R' ∧ ∀ ob, (i, ob) ∈ fin.al ↔ ∃ k, r = .nw k ob) ∨
  (wantT ops R o = some true ∧ (∀ ob, (i, ob) ∉ fin.al) ∧ ∃ m s s' H x, nth fin.sts m = some s ∧ nth fin.sts (m + 1) = some s' ∧ HSub base (ms.getD i 0) fin.al s H ∧ evHard P F (rho R) ⟨H, s.nx⟩ o = some (x, ⟨s'.C, s'.nx⟩) ∧ setT n R o.dst x = some R' ∧
    s'.hd = Nat.lor s.hd (Nat.shiftLeft 1 i) ∧ s'.M = Nat.lor (Nat.lor s.M (ms.getD i 0)) (Nat.shiftLeft 1 i) ∧ Nat.land s.hd (ms.getD i 0) = s.hd ∧ bit s.hd i = false)
structure RunF (l : List Oper) (i : Nat) (R : Tr AV) (s : Stg) (al : List (Nat × AO)) (sts : List Stg) (fin : Fin2) (Rs : Nat → Tr AV) : Prop where
  fst : Rs i = R
  lst : Rs ops.size = fin.R
  pre : ∃ pre, fin.sts = pre ++ s :: sts
  top : nth fin.sts (fin.sts.length - 1) = some fin.s
  al1 : ∀ p ∈ al, p ∈ fin.al
  al2 : ∀ p ∈ fin.al, p.1 < i → p ∈ al
  al3 : ∀ p ∈ fin.al, p.1 < ops.size
  hd1 : ∀ j, bit s.hd j = true → bit fin.s.hd j = true
  hd2 : ∀ j, j < i → bit fin.s.hd j = true → bit s.hd j = true
  hd3 : ∀ j, bit fin.s.hd j = true → j < ops.size
  mono : ∀ m t t', sts.length ≤ m → nth fin.sts m = some t → nth fin.sts (m + 1) = some t' → (∀ j, bit t.hd j = true → bit t'.hd j = true) ∧ ∃ h, bit t.hd h = false ∧ bit t'.hd h = true
  op : ∀ j o, l[j]? = some o → OpF P K F n ops base ms fin (i + j) o (Rs (i + j)) (Rs (i + j + 1))
end
section
variable {P : Program} {K : Kt} {F : Doer} {n : Nat} {ops : Array Oper} {base : Nat} {ms : List Nat}
/-- One more in front. -/
theorem RunF.cons {l : List Oper} {o : Oper} {i : Nat} {R R' : Tr AV} {s : Stg} {al al' : List (Nat × AO)} {sts : List Stg} {fin : Fin2} {Rs : Nat → Tr AV} (h : RunF P K F n ops base ms l (i + 1) R' s al' sts fin Rs) (hi : i < ops.size)
    (ha : ∀ p ∈ al, p ∈ al') (ha2 : ∀ p ∈ al', p.1 < i → p ∈ al) (ho : OpF P K F n ops base ms fin i o R R') (hd2 : ∀ j, j < i → bit fin.s.hd j = true → bit s.hd j = true) :
    RunF P K F n ops base ms (o :: l) i R s al sts fin (fun k => if k = i then R else Rs k) := by
  refine ⟨if_pos rfl, ?_, h.pre, h.top, fun p hp => h.al1 p (ha p hp), fun p hp hlt => ha2 p (h.al2 p hp (by omega)) hlt, h.al3, h.hd1, hd2, h.hd3, h.mono, fun j q hj => ?_⟩
  · rw [if_neg (by omega)]
    exact h.lst
  · cases j with
    | zero =>
      simp only [List.getElem?_cons_zero, Option.some.injEq] at hj
      subst hj
      simp only [Nat.add_zero, if_pos]
      rw [if_neg (by omega), h.fst]
      exact ho
    | succ j =>
      simp only [List.getElem?_cons_succ] at hj
      have := h.op j q hj
      rw [if_neg (by omega), if_neg (by omega)]
      rw [show i + (j + 1) = i + 1 + j by omega]
      exact this
theorem checkAt_ok {fin : Fin2} {o : Oper} {r : Sf} {a i : Nat} {R : Tr AV} {s : Stg} {al : List (Nat × AO)} {sts : List Stg} (hpre : ∃ pre, fin.sts = pre ++ s :: sts) (hal : ∀ p ∈ al, p ∈ fin.al) (he : evAt P K base a al (rho R) o s = some r) (hc : checkAt P K base a i fin (rho R) o r = true) :
    ∀ s ∈ fin.sts, valid fin.s.hd a i s = true → ∃ H, HSub base a fin.al s H ∧ evRead P K H (rho R) o = some r := by
  intro s' hs' hv
  have at_ : ∀ {al' : List (Nat × AO)} {t : Stg} {q : Sf}, (∀ p ∈ al', p ∈ fin.al) → evAt P K base a al' (rho R) o t = some q → ∃ H, HSub base a fin.al t H ∧ evRead P K H (rho R) o = some q := fun {al' t q} ha hq => by
    unfold evAt at hq
    cases hA : addAl base a t.M al' t.C with
    | none => rw [hA] at hq; cases hq
    | some H =>
      rw [hA] at hq
      refine ⟨H, fun nm ob hn => ?_, hq⟩
      rcases addAl_get hA nm ob hn with h1 | ⟨j, h1, h2, h3, h4⟩
      · exact Or.inl h1
      · exact Or.inr ⟨j, ha _ h1, h2, h3, h4⟩
  unfold checkAt at hc
  cases hr : reads o with
  | false =>
    refine ⟨.nil, (fun nm ob hn => by rw [Tr.get_nil] at hn; cases hn), ?_⟩
    obtain ⟨H, -, h2⟩ := at_ hal he
    rw [evRead_still hr H]
    exact h2
  | true =>
    rw [hr, cond_true] at hc
    split at hc
    · rename_i x hx
      obtain ⟨pre, hp⟩ := hpre
      rw [hx] at hp hs'
      have hlen := congrArg List.length hp
      simp only [List.length_append, List.length_cons, List.length_nil] at hlen
      have e1 : pre = [] := List.eq_nil_of_length_eq_zero (by omega)
      have e2 : sts = [] := List.eq_nil_of_length_eq_zero (by omega)
      subst e1
      subst e2
      simp only [List.nil_append, List.cons.injEq, and_true] at hp
      subst hp
      rw [List.mem_singleton] at hs'
      subst hs'
      exact at_ hal he
    · have h1 := List.all_eq_true.1 hc s' hs'
      rw [hv] at h1
      simp only [Bool.not_true, Bool.false_or] at h1
      cases hq : evAt P K base a fin.al (rho R) o s' with
      | none => rw [hq] at h1; cases h1
      | some r' =>
        rw [hq] at h1
        obtain rfl := eqS_ok h1
        exact at_ (fun _ hp => hp) hq
theorem rgRun_ok : ∀ (l : List Oper) (i : Nat) (R : Tr AV) (s : Stg) (al : List (Nat × AO)) (sts : List Stg) (fin : Fin2), i + l.length = ops.size → (∀ p ∈ al, p.1 < i) → (∀ j, bit s.hd j = true → j < i) → rgRun P K F n ops base ms l i R s al sts = some fin →
    ∃ Rs, RunF P K F n ops base ms l i R s al sts fin Rs
  | [], i, R, s, al, sts, fin, hs, ha, hb, h => by
    obtain rfl := Option.some.inj h
    refine ⟨fun _ => R, rfl, rfl, ⟨[], rfl⟩, nth_top s sts, fun _ h => h, fun _ h _ => h, fun p hp => (by have := ha p hp; simp only [List.length_nil] at hs; omega), fun _ h => h, fun _ _ h => h, fun j hj => (by have := hb j hj; simp only [List.length_nil] at hs; omega), fun m t t' hm h1 h2 => ?_, fun j o hj => by simp at hj⟩
    have := nth_lt h2
    simp only [List.length_cons] at this
    omega
  | o :: l, i, R, s, al, sts, fin, hs, ha, hb, h => by
    have hs' : i + 1 + l.length = ops.size := by simp only [List.length_cons] at hs; omega
    have hi : i < ops.size := by omega
    have hbi : ∀ j, j < i → True := fun _ _ => trivial
    have nal : ∀ {al' : List (Nat × AO)}, (∀ p ∈ fin.al, p.1 < i + 1 → p ∈ al') → (∀ p ∈ al', p.1 < i) → ∀ ob, (i, ob) ∉ fin.al := fun h1 h2 ob hm => Nat.lt_irrefl _ (h2 _ (h1 _ hm (Nat.lt_succ_self i)))
    have nhd : (∀ j, j < i + 1 → bit fin.s.hd j = true → bit s.hd j = true) → bit fin.s.hd i = false := fun h1 => by
      cases hx : bit fin.s.hd i with
      | false => rfl
      | true => exact absurd (hb i (h1 i (Nat.lt_succ_self i) hx)) (Nat.lt_irrefl _)
    unfold rgRun at h
    cases hw : wantT ops R o with
    | none => rw [hw] at h; cases h
    | some b =>
      rw [hw] at h
      cases b with
      | false =>
        dsimp only at h
        cases hR : setT n R o.dst (.tu []) with
        | none => rw [hR] at h; cases h
        | some R' =>
          rw [hR] at h
          obtain ⟨Rs, hF⟩ := rgRun_ok l (i + 1) R' s al sts fin hs' (fun p hp => Nat.lt_succ_of_lt (ha p hp)) (fun j hj => Nat.lt_succ_of_lt (hb j hj)) h
          exact ⟨_, hF.cons hi (fun _ h => h) (fun _ h _ => h) (Or.inl ⟨hw, hR, nal hF.al2 ha, nhd hF.hd2⟩) fun j hj => hF.hd2 j (by omega)⟩
      | true =>
        dsimp only at h
        cases hH : isHard o with
        | false =>
          rw [hH, cond_false] at h
          cases he : evAt P K base (ms.getD i 0) al (rho R) o s with
          | none => rw [he] at h; cases h
          | some r =>
            rw [he] at h
            dsimp only at h
            cases hR : setS n base i R o.dst r with
            | none => rw [hR] at h; cases h
            | some R' =>
              rw [hR] at h
              dsimp only at h
              cases r with
              | v x =>
                dsimp only at h
                cases hr : rgRun P K F n ops base ms l (i + 1) R' s al sts with
                | none => rw [hr] at h; cases h
                | some fin' =>
                  rw [hr] at h
                  dsimp only at h
                  cases hc : checkAt P K base (ms.getD i 0) i fin' (rho R) o (.v x) with
                  | false => rw [hc] at h; cases h
                  | true =>
                    rw [hc, cond_true] at h
                    obtain rfl := Option.some.inj h
                    obtain ⟨Rs, hF⟩ := rgRun_ok l (i + 1) R' s al sts fin' hs' (fun p hp => Nat.lt_succ_of_lt (ha p hp)) (fun j hj => Nat.lt_succ_of_lt (hb j hj)) hr
                    refine ⟨_, hF.cons hi (fun _ h => h) (fun _ h _ => h) (Or.inr (Or.inl ⟨hw, nhd hF.hd2, _, checkAt_ok hF.pre hF.al1 he hc, hR, fun ob => ⟨fun hm => absurd hm (nal hF.al2 ha ob), fun ⟨k, hk⟩ => by cases hk⟩⟩)) fun j hj => hF.hd2 j (by omega)⟩
              | nw k ob =>
                dsimp only at h
                rw [fAO_eq] at h
                cases hr : rgRun P K F n ops base ms l (i + 1) R' s ((i, ob) :: al) sts with
                | none => rw [hr] at h; cases h
                | some fin' =>
                  rw [hr] at h
                  dsimp only at h
                  cases hc : checkAt P K base (ms.getD i 0) i fin' (rho R) o (.nw k ob) with
                  | false => rw [hc] at h; cases h
                  | true =>
                    rw [hc, cond_true] at h
                    obtain rfl := Option.some.inj h
                    obtain ⟨Rs, hF⟩ := rgRun_ok l (i + 1) R' s ((i, ob) :: al) sts fin' hs' (fun p hp => by
                      rcases List.mem_cons.1 hp with rfl | hp
                      · exact Nat.lt_succ_self i
                      · exact Nat.lt_succ_of_lt (ha p hp)) (fun j hj => Nat.lt_succ_of_lt (hb j hj)) hr
                    refine ⟨_, hF.cons hi (fun p hp => List.mem_cons_of_mem _ hp) (fun p hp hlt => ?_) (Or.inr (Or.inl ⟨hw, nhd hF.hd2, _, checkAt_ok hF.pre (fun p hp => hF.al1 p (List.mem_cons_of_mem _ hp)) he hc, hR, fun ob' => ⟨fun hm => ?_, fun ⟨k', hk⟩ => ?_⟩⟩)) fun j hj => hF.hd2 j (by omega)⟩
                    · rcases List.mem_cons.1 hp with rfl | hp
                      · exact absurd hlt (Nat.lt_irrefl _)
                      · exact hp
                    · rcases List.mem_cons.1 (hF.al2 _ hm (Nat.lt_succ_self i)) with e | hp
                      · simp only [Prod.mk.injEq, true_and] at e
                        exact ⟨k, by rw [e]⟩
                      · exact absurd (ha _ hp) (Nat.lt_irrefl _)
                    · simp only [Sf.nw.injEq] at hk
                      rw [← hk.2]
                      exact hF.al1 _ (List.mem_cons_self ..)
        | true =>
          rw [hH, cond_true] at h
          cases hA : addAl base (ms.getD i 0) s.M al s.C with
          | none => rw [hA] at h; cases h
          | some H =>
            rw [hA] at h
            dsimp only at h
            cases he : evHard P F (rho R) ⟨H, s.nx⟩ o with
            | none => rw [he] at h; cases h
            | some y =>
              obtain ⟨x, T⟩ := y
              rw [he] at h
              dsimp only at h
              cases hR : setT n R o.dst x with
              | none => rw [hR] at h; cases h
              | some R' =>
                rw [hR] at h
                dsimp only at h
                cases hch : Nat.beq (Nat.land s.hd (ms.getD i 0)) s.hd with
                | false => rw [hch] at h; cases h
                | true =>
                  rw [hch, cond_true, fN_eq, fN_eq] at h
                  have hland := Nat.eq_of_beq_eq_true hch
                  have hsi : bit s.hd i = false := by
                    cases hx : bit s.hd i with
                    | false => rfl
                    | true => exact absurd (hb i hx) (Nat.lt_irrefl _)
                  have hor : ∀ j, bit (Nat.lor s.hd (Nat.shiftLeft 1 i)) j = true → bit s.hd j = true ∨ j = i := fun j hj => by
                    rw [bit_lor, bit_one] at hj
                    simpa using hj
                  obtain ⟨Rs, hF⟩ := rgRun_ok l (i + 1) R' ⟨Nat.lor s.hd (Nat.shiftLeft 1 i), Nat.lor (Nat.lor s.M (ms.getD i 0)) (Nat.shiftLeft 1 i), T.H, T.nx⟩ al (s :: sts) fin hs' (fun p hp => Nat.lt_succ_of_lt (ha p hp)) (fun j hj => by
                    rcases hor j hj with h1 | rfl
                    · exact Nat.lt_succ_of_lt (hb j h1)
                    · exact Nat.lt_succ_self _) h
                  obtain ⟨pre, hpre⟩ := hF.pre
                  have n1 : nth fin.sts sts.length = some s := by
                    rw [hpre, nth_suffix (by simp; omega)]
                    rw [show (∀ a : Stg, a :: s :: sts = [a] ++ s :: sts) from fun _ => rfl, nth_suffix (by simp)]
                    exact nth_top s sts
                  have n2 : nth fin.sts (sts.length + 1) = some ⟨Nat.lor s.hd (Nat.shiftLeft 1 i), Nat.lor (Nat.lor s.M (ms.getD i 0)) (Nat.shiftLeft 1 i), T.H, T.nx⟩ := by
                    rw [hpre, nth_suffix (by simp)]
                    exact nth_top _ (s :: sts)
                  refine ⟨fun k => if k = i then R else Rs k, if_pos rfl, ?_, ⟨pre ++ [⟨Nat.lor s.hd (Nat.shiftLeft 1 i), Nat.lor (Nat.lor s.M (ms.getD i 0)) (Nat.shiftLeft 1 i), T.H, T.nx⟩], by rw [hpre, List.append_assoc]; rfl⟩, hF.top, hF.al1, fun p hp hlt => hF.al2 p hp (by omega), hF.al3, fun j hj => hF.hd1 j (by rw [bit_lor, hj]; rfl), fun j hj hx => ?_, hF.hd3, fun m t t' hm h1 h2 => ?_, fun j q hj => ?_⟩
                  · show (if ops.size = i then R else Rs ops.size) = _
                    rw [if_neg (by omega)]
                    exact hF.lst
                  · rcases hor j (hF.hd2 j (by omega) hx) with h1 | rfl
                    · exact h1
                    · exact absurd hj (Nat.lt_irrefl _)
                  · rcases Nat.eq_or_lt_of_le hm with e | hlt
                    · subst e
                      rw [n1] at h1
                      rw [n2] at h2
                      obtain rfl := Option.some.inj h1
                      obtain rfl := Option.some.inj h2
                      exact ⟨fun j hj => by rw [bit_lor, hj]; rfl, i, hsi, by rw [bit_lor, bit_one]; simp⟩
                    · exact hF.mono m t t' hlt h1 h2
                  · cases j with
                    | zero =>
                      simp only [List.getElem?_cons_zero, Option.some.injEq] at hj
                      subst hj
                      simp only [Nat.add_zero, if_pos]
                      rw [if_neg (by omega), hF.fst]
                      refine Or.inr (Or.inr ⟨hw, nal hF.al2 ha, sts.length, s, _, H, x, n1, n2, fun nm ob hn => ?_, he, hR, rfl, rfl, hland, hsi⟩)
                      rcases addAl_get hA nm ob hn with h1 | ⟨j, h1, h2, h3, h4⟩
                      · exact Or.inl h1
                      · exact Or.inr ⟨j, hF.al1 _ h1, h2, h3, h4⟩
                    | succ j =>
                      simp only [List.getElem?_cons_succ] at hj
                      have := hF.op j q hj
                      rw [if_neg (by omega), if_neg (by omega)]
                      rw [show i + (j + 1) = i + 1 + j by omega]
                      exact this
end
end Go.Proofs.YtffccgnhdpjlaaaGreatDoor.Ev
