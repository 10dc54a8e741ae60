/- Regions of open order: each operation's step, and the whole region. -/
import Derived.Test.YtffccgnhdpjlaaaGreatDoorEvV
set_option linter.unusedVariables false
set_option linter.unusedSimpArgs false
namespace Go.Proofs.YtffccgnhdpjlaaaGreatDoor.Ev
open Go Go.RowKit
section
variable {P : Program} {K : Kt} {F : Doer} {n : Nat} {ops : Array Oper} {base : Nat} {ms : List Nat} {fin : Fin2} {Rs : Nat → Tr AV}
structure Ctx (P : Program) (K : Kt) (F : Doer) (n : Nat) (ops : Array Oper) (base : Nat) (ms : List Nat) (fin : Fin2) (Rs : Nat → Tr AV) (R : Tr AV) (s0 : Stg) : Prop where
  doer : DoerOk P K F
  stat : StatF ops ms
  mask : MaskOk ops ms
  run : RunF P K F n ops base ms ops.toList 0 R s0 [] [] fin Rs
theorem Ctx.steps {R : Tr AV} {s0 : Stg} (C : Ctx P K F n ops base ms fin Rs R s0) : Steps1 n ops Rs := fun i o ho => by
  have h := C.run.op i o (by simpa using ho)
  rw [Nat.zero_add] at h
  exact h.gives
theorem Ctx.chain {R : Tr AV} {s0 : Stg} (C : Ctx P K F n ops base ms fin Rs R s0) : ∀ d m s s', nth fin.sts m = some s → nth fin.sts (m + d) = some s' → ∀ j, bit s.hd j = true → bit s'.hd j = true
  | 0, m, s, s', h1, h2, j, hj => by
    rw [Nat.add_zero, h1] at h2
    obtain rfl := Option.some.inj h2
    exact hj
  | d + 1, m, s, s', h1, h2, j, hj => by
    have hlt := nth_lt h2
    have hex : ∃ t, nth fin.sts (m + d) = some t := by
      unfold nth
      exact ⟨_, List.getElem?_eq_getElem (by rw [List.length_reverse]; omega)⟩
    obtain ⟨t, ht⟩ := hex
    have h3 := C.chain d m s t h1 ht j hj
    exact (C.run.mono (m + d) t s' (Nat.zero_le _) ht h2).1 j h3
theorem Ctx.last {R : Tr AV} {s0 : Stg} (C : Ctx P K F n ops base ms fin Rs R s0) {m : Nat} {s : Stg} (h : nth fin.sts m = some s) : ∀ j, bit s.hd j = true → bit fin.s.hd j = true := by
  have hlt := nth_lt h
  refine C.chain (fin.sts.length - 1 - m) m s fin.s h ?_
  rw [show m + (fin.sts.length - 1 - m) = fin.sts.length - 1 by omega]
  exact C.run.top
/-- What holds when those of L have run. -/
structure InvF (ops : Array Oper) (base n : Nat) (fin : Fin2) (Rs : Nat → Tr AV) (w0 : World) (σ0 : Sg) (S : St) (w1 : World) (ds : List Deferred) (L : Nat → Bool) (a : Act) (w : World) (σ : Sg) (m : Nat) (s : Stg) (g : Nat → Option AO) : Prop where
  at_ : nth fin.sts m = some s
  h1 : ∀ i, bit s.hd i = true → L i = true
  h2 : ∀ i, bit fin.s.hd i = true → L i = true → bit s.hd i = true
  hM : ∀ j, bit s.M j = true → L j = true
  gC : ∀ nm ob, s.C.get nm = some ob → g nm = some ob
  gA : ∀ j ob, (j, ob) ∈ fin.al → L j = true → bit s.M j = false → g (base + j) = some ob
  sn : ∀ j, j < ops.size → σ (base + j) ≠ none → L j = true ∧ ∃ ob, (j, ob) ∈ fin.al
  cM : ∀ j, j < ops.size → bit s.M j = false → s.C.get (base + j) = none
  okF : OkF w0 σ g s.nx w
  nx : base + ops.size ≤ s.nx
  frF : FrF σ0 S w1 σ g w
  df : a.defers = ds
  sz : a.tmps.size = n
  tm : ∀ t x, Cur ops Rs L t x → x.R σ (a.tmps.getD t undef)
noncomputable def Inv (ops : Array Oper) (base n : Nat) (fin : Fin2) (Rs : Nat → Tr AV) (w0 : World) (σ0 : Sg) (S : St) (w1 : World) (ds : List Deferred) (L : Nat → Bool) (a : Act) (w : World) : Prop :=
  ∃ σ m s g, InvF ops base n fin Rs w0 σ0 S w1 ds L a w σ m s g
variable {R : Tr AV} {s0 : Stg} {w0 w1 w : World} {σ0 σ : Sg} {S : St} {ds : List Deferred} {L L' : Nat → Bool} {a : Act} {m : Nat} {s : Stg} {g : Nat → Option AO}
/-- The heap that one looks at is live. -/
theorem InvF.sub (I : InvF ops base n fin Rs w0 σ0 S w1 ds L a w σ m s g) {i : Nat} (hA : ∀ k, bit (ms.getD i 0) k = true → L k = true) {H : Tr AO} (hH : HSub base (ms.getD i 0) fin.al s H) : ∀ nm ob, H.get nm = some ob → g nm = some ob := fun nm ob hn => by
  rcases hH nm ob hn with h | ⟨j, h1, rfl, h3, h4⟩
  · exact I.gC nm ob h
  · exact I.gA j ob h1 (hA j h3) h4
/-- One that turns nothing but a place. -/
theorem InvF.still (C : Ctx P K F n ops base ms fin Rs R s0) (I : InvF ops base n fin Rs w0 σ0 S w1 ds L a w σ m s g) {i : Nat} {o : Oper} (ho : ops[i]? = some o) (hL : ∀ j, L' j = true ↔ (L j = true ∨ j = i)) (hal : ∀ ob, (i, ob) ∉ fin.al) (hhd : bit fin.s.hd i = false)
    {x : AV} (hx : setT n (Rs i) o.dst x = some (Rs (i + 1))) {u : Value} (hu : x.R σ u) : InvF ops base n fin Rs w0 σ0 S w1 ds L' (a.put o.dst u) w σ m s g := by
  refine ⟨I.at_, fun j hj => (hL j).2 (Or.inl (I.h1 j hj)), fun j hj hj' => ?_, fun j hj => (hL j).2 (Or.inl (I.hM j hj)), I.gC, fun j ob hm hj hb => ?_, fun j hj hs => ?_, I.cM, I.okF, I.nx, I.frF, (put_defers ..).trans I.df, (put_size ..).trans I.sz, Cur.next C.stat C.steps ho hL hx I.sz hu I.tm⟩
  · rcases (hL j).1 hj' with h | rfl
    · exact I.h2 j hj h
    · rw [hhd] at hj; cases hj
  · rcases (hL j).1 hj with h | rfl
    · exact I.gA j ob hm h hb
    · exact absurd hm (hal ob)
  · obtain ⟨k1, k2⟩ := I.sn j hj hs
    exact ⟨(hL j).2 (Or.inl k1), k2⟩
/-- One that makes a block. -/
theorem InvF.made (C : Ctx P K F n ops base ms fin Rs R s0) (hb : base = S.nx) (I : InvF ops base n fin Rs w0 σ0 S w1 ds L a w σ m s g) {i : Nat} {o : Oper} (ho : ops[i]? = some o) (hLi : L i = false) (hL : ∀ j, L' j = true ↔ (L j = true ∨ j = i)) {k : NK} {ob : AO} (hal : ∀ ob', (i, ob') ∈ fin.al → ob' = ob) (hmem : (i, ob) ∈ fin.al) (hhd : bit fin.s.hd i = false)
    (hx : setT n (Rs i) o.dst (k.av (base + i)) = some (Rs (i + 1))) {u : Value} {W : World} {obj : Obj} {tot : Nat} (hW : W.heap = w.heap.push obj) (hB : Beside w W)
    (hr : ∀ τ, Sub σ τ → τ (base + i) = some ⟨w.heap.size, 0, tot, nov⟩ → (k.av (base + i)).R τ u ∧ ob.R τ W ⟨w.heap.size, 0, tot, nov⟩) : Inv ops base n fin Rs w0 σ0 S w1 ds L' (a.put o.dst u) W := by
  have hi : i < ops.size := (Array.getElem?_eq_some_iff.1 ho).1
  have hnm : σ (base + i) = none := by
    cases hs : σ (base + i) with
    | none => rfl
    | some B =>
      have := (I.sn i hi (by rw [hs]; simp)).1
      rw [hLi] at this
      cases this
  have hMi : bit s.M i = false := by
    cases hs : bit s.M i with
    | false => rfl
    | true =>
      have := I.hM i hs
      rw [hLi] at this
      cases this
  have hsub := Sg.sub_put ⟨w.heap.size, 0, tot, nov⟩ hnm
  obtain ⟨r1, r2⟩ := hr _ hsub (Sg.put_same ..)
  have hne : ∀ nm ob', g nm = some ob' → nm ≠ base + i := fun nm ob' hg e => by
    subst e
    obtain ⟨B, hB, -⟩ := I.okF.live _ _ hg
    rw [hnm] at hB
    cases hB
  have put_ne : ∀ nm, nm ≠ base + i → (σ.put (base + i) ⟨w.heap.size, 0, tot, nov⟩) nm = σ nm := fun nm e => by unfold Sg.put; rw [if_neg e]
  refine ⟨σ.put (base + i) ⟨w.heap.size, 0, tot, nov⟩, m, s, gput g (base + i) ob, I.at_, fun j hj => (hL j).2 (Or.inl (I.h1 j hj)), fun j hj hj' => ?_, fun j hj => (hL j).2 (Or.inl (I.hM j hj)), fun nm ob' hn => ?_, fun j ob' hm hj hbj => ?_, fun j hj hs => ?_, I.cM, I.okF.new hnm (by have := I.nx; omega) hW hB r2, I.nx,
    ⟨I.frF.sub.trans hsub, Nat.le_trans I.frF.size (by rw [hW, Array.size_push]; omega), fun q hq hoff => ?_, fun nm hn hs => ?_⟩, (put_defers ..).trans I.df, (put_size ..).trans I.sz, Cur.next C.stat C.steps ho hL hx I.sz r1 fun t x hc => (I.tm t x hc).mono hsub⟩
  · rcases (hL j).1 hj' with h | rfl
    · exact I.h2 j hj h
    · rw [hhd] at hj; cases hj
  · have := I.gC nm ob' hn
    unfold gput
    rw [if_neg (hne nm ob' this)]
    exact this
  · unfold gput
    rcases (hL j).1 hj with h | rfl
    · have := I.gA j ob' hm h hbj
      rw [if_neg (hne _ _ this)]
      exact this
    · rw [if_pos rfl, hal ob' hm]
  · by_cases e : j = i
    · subst e
      exact ⟨(hL j).2 (Or.inr rfl), ob, hmem⟩
    · rw [put_ne _ (by omega)] at hs
      obtain ⟨k1, k2⟩ := I.sn j hj hs
      exact ⟨(hL j).2 (Or.inl k1), k2⟩
  · obtain ⟨k1, k2⟩ := I.frF.keep q hq hoff
    have hqw : q < w.heap.size := Nat.lt_of_lt_of_le hq I.frF.size
    refine ⟨(push_old hW q hqw).trans k1, fun nm ob' B hg hs => ?_⟩
    unfold gput at hg
    by_cases e : nm = base + i
    · subst e
      rw [Sg.put_same] at hs
      obtain rfl := Option.some.inj hs
      exact Nat.ne_of_gt hqw
    · rw [if_neg e] at hg
      rw [put_ne nm e] at hs
      exact k2 nm ob' B hg hs
  · rw [put_ne nm (by omega)]
    exact I.frF.old nm hn hs
/-- One that writes, or calls. -/
theorem InvF.hard (C : Ctx P K F n ops base ms fin Rs R s0) (hb : base = S.nx) (I : InvF ops base n fin Rs w0 σ0 S w1 ds L a w σ m s g) {i : Nat} {o : Oper} (ho : ops[i]? = some o) (hLi : L i = false) (hL : ∀ j, L' j = true ↔ (L j = true ∨ j = i)) (hA : ∀ k, bit (ms.getD i 0) k = true → L k = true) (hal : ∀ ob, (i, ob) ∉ fin.al)
    {s' : Stg} {H : Tr AO} {x : AV} (hs' : nth fin.sts (m + 1) = some s') (hH : HSub base (ms.getD i 0) fin.al s H) (hx : setT n (Rs i) o.dst x = some (Rs (i + 1))) (hhd : s'.hd = Nat.lor s.hd (Nat.shiftLeft 1 i)) (hM : s'.M = Nat.lor (Nat.lor s.M (ms.getD i 0)) (Nat.shiftLeft 1 i))
    {u : Value} {w' : World} {τ : Sg} (hu : x.R τ u) (hO : Ok w0 τ ⟨s'.C, s'.nx⟩ w') (hF : Fr σ ⟨H, s.nx⟩ w τ ⟨s'.C, s'.nx⟩ w') : Inv ops base n fin Rs w0 σ0 S w1 ds L' (a.put o.dst u) w' := by
  have hsub := I.sub hA hH
  have bM : ∀ j, bit s'.M j = false → bit s.M j = false ∧ bit (ms.getD i 0) j = false ∧ j ≠ i := fun j hj => by
    rw [hM, bit_lor, bit_lor, bit_one] at hj
    simp only [Bool.or_eq_false_iff, decide_eq_false_iff_not] at hj
    exact ⟨hj.1.1, hj.1.2, hj.2⟩
  have bH : ∀ j, bit s'.hd j = true ↔ (bit s.hd j = true ∨ j = i) := fun j => by
    rw [hhd, bit_lor, bit_one]
    simp
  -- blocks of the region's own that are not handed on
  have extra : ∀ j ob, (j, ob) ∈ fin.al → L j = true → bit s'.M j = false → g (base + j) = some ob ∧ ∃ B, σ (base + j) = some B ∧ w0.heap.size ≤ B.b ∧ B.b < w.heap.size ∧ ob.R σ w B ∧ w'.heap[B.b]? = w.heap[B.b]? ∧ Off τ ⟨s'.C, s'.nx⟩ B.b ∧ s'.C.get (base + j) = none := fun j ob hm hj hbj => by
    obtain ⟨b1, b2, b3⟩ := bM j hbj
    have hg := I.gA j ob hm hj b1
    obtain ⟨B, hB, c1, c2, c3⟩ := I.okF.live _ _ hg
    have hHn : H.get (base + j) = none := by
      cases hq : H.get (base + j) with
      | none => rfl
      | some q =>
        rcases hH _ _ hq with h | ⟨j', -, h2, h3, -⟩
        · rw [I.cM j (C.run.al3 _ hm) b1] at h
          cases h
        · obtain rfl : j = j' := by omega
          rw [b2] at h3
          cases h3
    have hoff : Off σ ⟨H, s.nx⟩ B.b := fun n' o' B' h1 h2 e => by
      have h3 := hsub n' o' h1
      have := I.okF.inj n' (base + j) o' ob B' B h3 hg h2 hB e
      subst this
      rw [hHn] at h1
      cases h1
    obtain ⟨k1, k2⟩ := hF.keep B.b c2 hoff
    refine ⟨hg, B, hB, c1, c2, c3, k1, k2, ?_⟩
    cases hq : s'.C.get (base + j) with
    | none => rfl
    | some q => exact absurd rfl (k2 (base + j) q B hq (hF.sub _ _ hB))
  let g' : Nat → Option AO := fun nm => open Classical in match s'.C.get nm with
    | some ob => some ob
    | none => if ∃ j ob, (j, ob) ∈ fin.al ∧ L j = true ∧ bit s'.M j = false ∧ nm = base + j then g nm else none
  have g'C : ∀ nm ob, s'.C.get nm = some ob → g' nm = some ob := fun nm ob hn => by
    show (match s'.C.get nm with | some ob => _ | none => _) = _
    rw [hn]
  have g'E : ∀ nm ob, g' nm = some ob → s'.C.get nm = some ob ∨ ∃ j, (j, ob) ∈ fin.al ∧ L j = true ∧ bit s'.M j = false ∧ nm = base + j := fun nm ob hn => by
    have hn : (match s'.C.get nm with | some ob => some ob | none => (open Classical in if ∃ j ob, (j, ob) ∈ fin.al ∧ L j = true ∧ bit s'.M j = false ∧ nm = base + j then g nm else none)) = some ob := hn
    cases hq : s'.C.get nm with
    | some q => rw [hq] at hn; exact Or.inl hn
    | none =>
      rw [hq] at hn
      dsimp only at hn
      split at hn
      · rename_i he
        obtain ⟨j, ob', e1, e2, e3, rfl⟩ := he
        have := (extra j ob' e1 e2 e3).1
        rw [hn] at this
        obtain rfl := Option.some.inj this
        exact Or.inr ⟨j, e1, e2, e3, rfl⟩
      · cases hn
  have g'A : ∀ j ob, (j, ob) ∈ fin.al → L j = true → bit s'.M j = false → g' (base + j) = some ob := fun j ob e1 e2 e3 => by
    obtain ⟨k1, -, -, -, -, -, -, -, k2⟩ := extra j ob e1 e2 e3
    show (match s'.C.get (base + j) with | some ob => _ | none => _) = _
    rw [k2]
    dsimp only
    rw [if_pos ⟨j, ob, e1, e2, e3, rfl⟩]
    exact k1
  refine ⟨τ, m + 1, s', g', hs', fun j hj => ?_, fun j hj hj' => ?_, fun j hj => ?_, g'C, fun j ob hm hj hbj => ?_, fun j hj hsn => ?_, fun j hj hbj => ?_, ⟨hO.below, fun nm ob hn => ?_, fun n1 n2 o1 o2 B1 B2 k1 k2 e1 e2 e => ?_, hO.fresh⟩, Nat.le_trans I.nx hF.nx, ⟨I.frF.sub.trans hF.sub, Nat.le_trans I.frF.size hF.size, fun q hq hoff => ?_, fun nm hn hs => hF.old nm (by have := I.nx; show nm < s.nx; omega) (I.frF.old nm hn hs)⟩,
    (put_defers ..).trans I.df, (put_size ..).trans I.sz, Cur.next C.stat C.steps ho hL hx I.sz hu fun t x hc => (I.tm t x hc).mono hF.sub⟩
  · rcases (bH j).1 hj with h | rfl
    · exact (hL j).2 (Or.inl (I.h1 j h))
    · exact (hL j).2 (Or.inr rfl)
  · rcases (hL j).1 hj' with h | rfl
    · exact (bH j).2 (Or.inl (I.h2 j hj h))
    · exact (bH j).2 (Or.inr rfl)
  · rw [hM, bit_lor, bit_lor, bit_one] at hj
    simp only [Bool.or_eq_true, decide_eq_true_eq] at hj
    rcases hj with (h | h) | rfl
    · exact (hL j).2 (Or.inl (I.hM j h))
    · exact (hL j).2 (Or.inl (hA j h))
    · exact (hL j).2 (Or.inr rfl)
  · rcases (hL j).1 hj with h | rfl
    · exact g'A j ob hm h hbj
    · exact absurd hm (hal ob)
  · have : σ (base + j) ≠ none := fun e => hsn (hF.old _ (by have := I.nx; show base + j < s.nx; omega) e)
    obtain ⟨k1, k2⟩ := I.sn j hj this
    exact ⟨(hL j).2 (Or.inl k1), k2⟩
  · cases hq : s'.C.get (base + j) with
    | none => rfl
    | some q =>
      obtain ⟨B, hB, -⟩ := hO.live _ _ hq
      have : σ (base + j) ≠ none := fun e => by
        have h := hF.old _ (by have := I.nx; show base + j < s.nx; omega) e
        rw [hB] at h
        cases h
      obtain ⟨k1, ob, k2⟩ := I.sn j hj this
      have h := (extra j ob k2 k1 hbj).2
      obtain ⟨-, -, -, -, -, -, -, h⟩ := h
      rw [hq] at h
      cases h
  · rcases g'E nm ob hn with h | ⟨j, e1, e2, e3, rfl⟩
    · exact hO.live nm ob h
    · obtain ⟨-, B, hB, c1, c2, c3, k1, -⟩ := extra j ob e1 e2 e3
      exact ⟨B, hF.sub _ _ hB, c1, Nat.lt_of_lt_of_le c2 hF.size, (c3.mono hF.sub).same k1⟩
  · rcases g'E n1 o1 k1 with h | ⟨j, f1, f2, f3, rfl⟩ <;> rcases g'E n2 o2 k2 with h' | ⟨j', f1', f2', f3', rfl⟩
    · exact hO.inj n1 n2 o1 o2 B1 B2 h h' e1 e2 e
    · obtain ⟨-, B, hB, -, -, -, -, k3, -⟩ := extra j' o2 f1' f2' f3'
      rw [hF.sub _ _ hB] at e2
      obtain rfl := Option.some.inj e2
      exact absurd e (k3 n1 o1 B1 h e1)
    · obtain ⟨-, B, hB, -, -, -, -, k3, -⟩ := extra j o1 f1 f2 f3
      rw [hF.sub _ _ hB] at e1
      obtain rfl := Option.some.inj e1
      exact absurd e.symm (k3 n2 o2 B2 h' e2)
    · obtain ⟨g1, C1, hC1, -⟩ := extra j o1 f1 f2 f3
      obtain ⟨g2, C2, hC2, -⟩ := extra j' o2 f1' f2' f3'
      rw [hF.sub _ _ hC1] at e1
      rw [hF.sub _ _ hC2] at e2
      obtain rfl := Option.some.inj e1
      obtain rfl := Option.some.inj e2
      exact I.okF.inj _ _ o1 o2 _ _ g1 g2 hC1 hC2 e
  · obtain ⟨k1, k2⟩ := I.frF.keep q hq hoff
    obtain ⟨k3, k4⟩ := hF.keep q (Nat.lt_of_lt_of_le hq I.frF.size) (fun n' o' B' h1 h2 => k2 n' o' B' (hsub n' o' h1) h2)
    refine ⟨k3.trans k1, fun nm ob B hg hs => ?_⟩
    rcases g'E nm ob hg with h | ⟨j, e1, e2, e3, rfl⟩
    · exact k4 nm ob B h hs
    · obtain ⟨g1, B', hB', -⟩ := extra j ob e1 e2 e3
      rw [hF.sub _ _ hB'] at hs
      obtain rfl := Option.some.inj hs
      exact k2 _ ob _ g1 hB'
/-- Any operation that is ready. -/
theorem Inv.step (h0 : GOk K w0) (hE0 : EOk P K σ0) (C : Ctx P K F n ops base ms fin Rs R s0) (hb : base = S.nx) (I : Inv ops base n fin Rs w0 σ0 S w1 ds L a w) {i : Nat} {o : Oper} (ho : ops[i]? = some o) (hLi : L i = false) (hL : ∀ j, L' j = true ↔ (L j = true ∨ j = i)) (hS : Shut ops L) (hAh : Ahead L o.after.toList) {K : Act → World → Prop} {Q : Exit → Act → World → Prop}
    (hK : ∀ a' w', Inv ops base n fin Rs w0 σ0 S w1 ds L' a' w' → K a' w') : wpOp P ops Q i K a w := by
  obtain ⟨σ, m, s, g, I⟩ := I
  have hA : ∀ k, bit (ms.getD i 0) k = true → L k = true := C.mask L hS i o ho hAh
  have hD : ∀ j oj, ops[j]? = some oj → L j = true → ∀ k, bit (ms.getD j 0) k = true → L k = true := fun j oj hoj hj k hk => C.mask L hS j oj hoj (fun e he hb => hS j oj hoj hj e he hb) k hk
  have hop := C.run.op i o (by simpa using ho)
  rw [Nat.zero_add] at hop
  unfold wpOp
  rw [ho]
  dsimp only
  rcases hop with ⟨hw, hx, hal, hhd⟩ | ⟨hw, hhd, r, hr, hx, hal⟩ | ⟨hw, hal, m2, s2, s2', H, x, n1, n2, hH, he, hx, k1, k2, k3, k4⟩
  · rw [only_want C.stat C.steps ho hLi hA hD I.tm hw, if_neg (by simp)]
    exact hK _ _ ⟨σ, m, s, g, I.still C ho hL hal hhd hx ⟨[], trivial, rfl⟩⟩
  · rw [only_want C.stat C.steps ho hLi hA hD I.tm hw, if_pos rfl]
    left
    have hval : valid fin.s.hd (ms.getD i 0) i s = true := by
      unfold valid
      have e1 : bit s.M i = false := by
        cases hq : bit s.M i with
        | false => rfl
        | true =>
          have := I.hM i hq
          rw [hLi] at this
          cases this
      rw [e1]
      simp only [Bool.not_false, Bool.true_and]
      have : Nat.land (Nat.land (ms.getD i 0) fin.s.hd) s.hd = Nat.land (ms.getD i 0) fin.s.hd := by
        apply Nat.eq_of_testBit_eq
        intro j
        show Nat.testBit ((ms.getD i 0 &&& fin.s.hd) &&& s.hd) j = Nat.testBit (ms.getD i 0 &&& fin.s.hd) j
        rw [Nat.testBit_and, Nat.testBit_and]
        cases h1 : Nat.testBit (ms.getD i 0) j with
        | false => rfl
        | true =>
          cases h2 : Nat.testBit fin.s.hd j with
          | false => rfl
          | true =>
            have : bit s.hd j = true := I.h2 j h2 (hA j h1)
            unfold bit at this
            rw [this]
            rfl
      rw [this]
      exact Nat.beq_refl _
    obtain ⟨H, hH, he⟩ := hr s (nth_mem I.at_) hval
    rw [evRead_congr (only_eq o (rho (Rs i)))] at he
    refine evSoft_wp (nm := base + i) (h0.at I.okF.below) (hE0.mono I.frF.sub) (I.okF.liveAt (I.sub hA hH)) (only_HA C.stat C.steps ho hLi hA hD I.tm) he ?_
    cases r with
    | v x =>
      intro u hu
      refine hK _ _ ⟨σ, m, s, g, I.still C ho hL (fun ob hm => ?_) hhd hx hu⟩
      obtain ⟨k, hk⟩ := (hal ob).1 hm
      cases hk
    | nw k ob =>
      intro u W obj tot hW hB hr
      refine hK _ _ (I.made C hb ho hLi hL (fun ob' hm => ?_) ((hal ob).2 ⟨k, rfl⟩) hhd hx hW hB hr)
      obtain ⟨k', hk⟩ := (hal ob').1 hm
      simp only [Sf.nw.injEq] at hk
      exact hk.2.symm
  · rw [only_want C.stat C.steps ho hLi hA hD I.tm hw, if_pos rfl]
    left
    have hm : m = m2 := by
      rcases Nat.lt_trichotomy m m2 with h | h | h
      · exfalso
        have hlt := nth_lt n1
        obtain ⟨t, ht⟩ : ∃ t, nth fin.sts (m + 1) = some t := by
          unfold nth
          exact ⟨_, List.getElem?_eq_getElem (by rw [List.length_reverse]; omega)⟩
        obtain ⟨-, q, q1, q2⟩ := C.run.mono m s t (Nat.zero_le _) I.at_ ht
        have q3 := C.chain (m2 - (m + 1)) (m + 1) t s2 ht (by rw [show m + 1 + (m2 - (m + 1)) = m2 by omega]; exact n1) q q2
        have q4 : bit (ms.getD i 0) q = true := by
          have : Nat.testBit (s2.hd &&& ms.getD i 0) q = true := by
            show Nat.testBit (Nat.land s2.hd (ms.getD i 0)) q = true
            rw [k3]
            exact q3
          rw [Nat.testBit_and] at this
          simp only [Bool.and_eq_true] at this
          exact this.2
        have q5 := I.h2 q (C.last n1 q q3) (hA q q4)
        rw [q1] at q5
        cases q5
      · exact h
      · exfalso
        have q1 : bit s2'.hd i = true := by rw [k1, bit_lor, bit_one]; simp
        have q2 := C.chain (m - (m2 + 1)) (m2 + 1) s2' s n2 (by rw [show m2 + 1 + (m - (m2 + 1)) = m by omega]; exact I.at_) i q1
        have := I.h1 i q2
        rw [hLi] at this
        cases this
    subst hm
    rw [I.at_] at n1
    obtain rfl := Option.some.inj n1
    rw [evHard_congr (only_eq o (rho (Rs i)))] at he
    exact evHard_ok C.doer h0 (hE0.mono I.frF.sub) (only_HA C.stat C.steps ho hLi hA hD I.tm) (I.okF.ok (I.sub hA hH)) he fun u w' τ h1 h2 h3 => hK _ _ (I.hard C hb ho hLi hL hA hal n2 hH hx k1 k2 h1 h2 h3)
end
end Go.Proofs.YtffccgnhdpjlaaaGreatDoor.Ev
