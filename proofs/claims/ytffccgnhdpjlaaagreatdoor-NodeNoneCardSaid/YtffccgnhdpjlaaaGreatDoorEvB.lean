/- The runner's values and heap, and what they say of the machine's: a name of a block stands for a block, where its cells begin, and how many it has. -/
import Derived.Test.YtffccgnhdpjlaaaGreatDoorEvA
import Derived.Below
import Derived.Laws.Sem
set_option linter.unusedVariables false
set_option linter.unusedSimpArgs false
namespace Go.Proofs.YtffccgnhdpjlaaaGreatDoor.Ev
open Go Go.RowKit
/-- A block of the machine: its number, where the named row begins in it, how many cells it has. -/
structure Blk where
  b : Nat
  base : Nat
  tot : Nat
  v : Value
/-- No value is named. -/
abbrev nov : Value := .nilIface
abbrev Sg := Nat → Option Blk
inductive Lf where
  | b (x : Bool)
  | i (k : IntKind) (n : Int)
  | s (l : List Nat)
  | p (o : Option (Nat × Nat))
  | sl (o : Option (Nat × Nat)) (len sz : Nat)
  | m (o : Option Nat)
  | fn (f : FuncId) (cap : List (Nat × Nat))
  | raw (v : Value)
  | sy (n : Nat)
  | pos (k : IntKind)
inductive AE where
  | lf (x : Lf)
  | ag (l : List Lf)
inductive AV where
  | e (x : AE)
  | tu (l : List AE)
inductive AO where
  | cells (l : List Lf) (t : TypeId) (ex : Bool)
  | mp (es : List (AE × AE))
  | si (l : List Nat) (pos : Nat)
/-- Bytes. -/
noncomputable def bs (l : List Nat) : ByteArray := ⟨(l.map UInt8.ofNat).toArray⟩
noncomputable def PR (σ : Sg) (a : Nat × Nat) (u : Addr) : Prop := ∃ B, σ a.1 = some B ∧ u = ⟨B.b, B.base + a.2, none⟩
noncomputable def CR (σ : Sg) : List (Nat × Nat) → List Value → Prop
  | [], [] => True
  | a :: l, v :: vs => (∃ u, PR σ a u ∧ v = .pointer (some u)) ∧ CR σ l vs
  | _, _ => False
/-- What a leaf says of a value. -/
noncomputable def Lf.R (σ : Sg) : Lf → Value → Prop
  | .b x, v => v = .bool x
  | .i k n, v => v = .int k n
  | .s l, v => v = .string (bs l) ∧ ∀ c ∈ l, c < 256
  | .p none, v => v = .pointer none
  | .p (some a), v => ∃ u, PR σ a u ∧ v = .pointer (some u)
  | .sl none len _, v => v = .slice none 0 0 ∧ len = 0
  | .sl (some a) len sz, v => ∃ B, σ a.1 = some B ∧ ((∃ c, v = .slice (some ⟨B.b, B.base + a.2, none⟩) len c ∧ B.base + a.2 + c * sz = B.tot ∧ len ≤ c) ∨ (len = 0 ∧ ∃ u, v = .slice (some u) 0 0))
  | .m none, v => v = .map none
  | .m (some n), v => ∃ B, σ n = some B ∧ v = .map (some B.b)
  | .fn f cap, v => ∃ vs : List Value, CR σ cap vs ∧ v = .func (.func f) #[] vs.toArray
  | .raw u, v => v = u ∧ u.oneCell' = true
  | .sy n, v => ∃ B, σ n = some B ∧ v = B.v ∧ B.v.oneCell' = true
  | .pos k, v => ∃ n : Int, v = .int k n ∧ 0 < n
noncomputable def RL (σ : Sg) : List Lf → List Value → Prop
  | [], [] => True
  | x :: l, v :: vs => x.R σ v ∧ RL σ l vs
  | _, _ => False
noncomputable def AE.R (σ : Sg) : AE → Value → Prop
  | .lf x, v => x.R σ v
  | .ag l, v => ∃ vs : List Value, RL σ l vs ∧ v = .agg vs.toArray
noncomputable def RE (σ : Sg) : List AE → List Value → Prop
  | [], [] => True
  | x :: l, v :: vs => x.R σ v ∧ RE σ l vs
  | _, _ => False
noncomputable def AV.R (σ : Sg) : AV → Value → Prop
  | .e x, v => x.R σ v
  | .tu l, v => ∃ vs : List Value, RE σ l vs ∧ v = .tuple vs.toArray
noncomputable def RV (σ : Sg) : List AV → List Value → Prop
  | [], [] => True
  | x :: l, v :: vs => x.R σ v ∧ RV σ l vs
  | _, _ => False
noncomputable def RM (σ : Sg) : List (AE × AE) → List MapEntry → Prop
  | [], [] => True
  | x :: l, v :: vs => x.1.R σ v.key ∧ x.2.R σ v.val ∧ RM σ l vs
  | _, _ => False
noncomputable def AO.R (σ : Sg) (w : World) (B : Blk) : AO → Prop
  | .cells l t ex => ∃ cs fz, w.heap[B.b]? = some (.cells cs t fz) ∧ cs.size = B.tot ∧ (∀ i, i < B.tot → ¬ (fz.1 ≤ i ∧ i < fz.2)) ∧ B.base + l.length ≤ B.tot ∧
      (ex = true → B.base = 0 ∧ B.tot = l.length) ∧ ∀ i x, l[i]? = some x → ∃ v, cs[B.base + i]? = some v ∧ x.R σ v
  | .mp es => ∃ rs clk, w.heap[B.b]? = some (.map rs clk) ∧ RM σ es rs.toList
  | .si l pos => B.base = 0 ∧ w.heap[B.b]? = some (.stringIter (bs l) pos)
/-! ### more names -/
noncomputable def Sub (σ τ : Sg) : Prop := ∀ n B, σ n = some B → τ n = some B
theorem Sub.refl (σ : Sg) : Sub σ σ := fun _ _ h => h
theorem Sub.trans {a b c : Sg} (h : Sub a b) (k : Sub b c) : Sub a c := fun n B x => k n B (h n B x)
theorem PR.mono {σ τ : Sg} (hs : Sub σ τ) {a : Nat × Nat} {u : Addr} (h : PR σ a u) : PR τ a u := let ⟨B, h1, h2⟩ := h; ⟨B, hs _ _ h1, h2⟩
theorem CR.mono {σ τ : Sg} (hs : Sub σ τ) : ∀ {l : List (Nat × Nat)} {vs : List Value}, CR σ l vs → CR τ l vs
  | [], [], _ => trivial
  | _ :: _, _ :: _, ⟨⟨u, h1, h2⟩, h3⟩ => ⟨⟨u, h1.mono hs, h2⟩, CR.mono hs h3⟩
  | [], _ :: _, h => h
  | _ :: _, [], h => h
theorem Lf.R.mono {σ τ : Sg} (hs : Sub σ τ) : ∀ {x : Lf} {v : Value}, x.R σ v → x.R τ v
  | .b _, _, h => h
  | .i _ _, _, h => h
  | .s _, _, h => h
  | .p none, _, h => h
  | .p (some a), _, ⟨u, h1, h2⟩ => ⟨u, h1.mono hs, h2⟩
  | .sl none _ _, _, h => h
  | .sl (some a) _ _, _, ⟨B, h1, h2⟩ => ⟨B, hs _ _ h1, h2⟩
  | .m none, _, h => h
  | .m (some n), _, ⟨B, h1, h2⟩ => ⟨B, hs _ _ h1, h2⟩
  | .fn f cap, _, ⟨vs, h1, h2⟩ => ⟨vs, h1.mono hs, h2⟩
  | .raw _, _, h => h
  | .sy _, _, ⟨B, h1, h2⟩ => ⟨B, hs _ _ h1, h2⟩
  | .pos _, _, h => h
theorem RL.mono {σ τ : Sg} (hs : Sub σ τ) : ∀ {l : List Lf} {vs : List Value}, RL σ l vs → RL τ l vs
  | [], [], _ => trivial
  | _ :: _, _ :: _, ⟨h1, h2⟩ => ⟨h1.mono hs, RL.mono hs h2⟩
  | [], _ :: _, h => h
  | _ :: _, [], h => h
theorem AE.R.mono {σ τ : Sg} (hs : Sub σ τ) : ∀ {x : AE} {v : Value}, x.R σ v → x.R τ v
  | .lf _, _, h => Lf.R.mono hs h
  | .ag _, _, ⟨vs, h1, h2⟩ => ⟨vs, RL.mono hs h1, h2⟩
theorem RE.mono {σ τ : Sg} (hs : Sub σ τ) : ∀ {l : List AE} {vs : List Value}, RE σ l vs → RE τ l vs
  | [], [], _ => trivial
  | _ :: _, _ :: _, ⟨h1, h2⟩ => ⟨AE.R.mono hs h1, RE.mono hs h2⟩
  | [], _ :: _, h => h
  | _ :: _, [], h => h
theorem AV.R.mono {σ τ : Sg} (hs : Sub σ τ) : ∀ {x : AV} {v : Value}, x.R σ v → x.R τ v
  | .e _, _, h => AE.R.mono hs h
  | .tu _, _, ⟨vs, h1, h2⟩ => ⟨vs, RE.mono hs h1, h2⟩
theorem RV.mono {σ τ : Sg} (hs : Sub σ τ) : ∀ {l : List AV} {vs : List Value}, RV σ l vs → RV τ l vs
  | [], [], _ => trivial
  | _ :: _, _ :: _, ⟨h1, h2⟩ => ⟨AV.R.mono hs h1, RV.mono hs h2⟩
  | [], _ :: _, h => h
  | _ :: _, [], h => h
theorem RM.mono {σ τ : Sg} (hs : Sub σ τ) : ∀ {l : List (AE × AE)} {vs : List MapEntry}, RM σ l vs → RM τ l vs
  | [], [], _ => trivial
  | _ :: _, _ :: _, ⟨h1, h2, h3⟩ => ⟨AE.R.mono hs h1, AE.R.mono hs h2, RM.mono hs h3⟩
  | [], _ :: _, h => h
  | _ :: _, [], h => h
theorem AO.R.mono {σ τ : Sg} (hs : Sub σ τ) {w : World} {B : Blk} : ∀ {o : AO}, o.R σ w B → o.R τ w B
  | .cells l t ex, ⟨cs, fz, h1, h2, h3, h4, h5, h6⟩ => ⟨cs, fz, h1, h2, h3, h4, h5, fun i x hx => let ⟨v, k1, k2⟩ := h6 i x hx; ⟨v, k1, k2.mono hs⟩⟩
  | .mp es, ⟨rs, clk, h1, h2⟩ => ⟨rs, clk, h1, h2.mono hs⟩
  | .si _ _, h => h
/-- Only the block itself counts. -/
theorem AO.R.same {σ : Sg} {w w' : World} {B : Blk} {o : AO} (hb : w'.heap[B.b]? = w.heap[B.b]?) (h : o.R σ w B) : o.R σ w' B := by
  cases o with
  | cells l t ex => obtain ⟨cs, fz, h1, h2⟩ := h; exact ⟨cs, fz, hb.trans h1, h2⟩
  | mp es => obtain ⟨rs, clk, h1, h2⟩ := h; exact ⟨rs, clk, hb.trans h1, h2⟩
  | si l pos => exact ⟨h.1, hb.trans h.2⟩
/-! ### the state -/
structure St where
  H : Tr AO
  nx : Nat
structure Ok (w0 : World) (σ : Sg) (S : St) (w : World) : Prop where
  below : Below w0.heap.size w0 w
  live : ∀ n o, S.H.get n = some o → ∃ B, σ n = some B ∧ w0.heap.size ≤ B.b ∧ B.b < w.heap.size ∧ o.R σ w B
  inj : ∀ n m o o' B B', S.H.get n = some o → S.H.get m = some o' → σ n = some B → σ m = some B' → B.b = B'.b → n = m
  fresh : ∀ n B, σ n = some B → n < S.nx
/-- A block that none of the live names stands for. -/
noncomputable def Off (σ : Sg) (S : St) (k : Nat) : Prop := ∀ n o B, S.H.get n = some o → σ n = some B → B.b ≠ k
/-- What may have turned: the named blocks alone. -/
structure Fr (σ : Sg) (S : St) (w : World) (τ : Sg) (T : St) (w' : World) : Prop where
  sub : Sub σ τ
  size : w.heap.size ≤ w'.heap.size
  keep : ∀ k, k < w.heap.size → Off σ S k → w'.heap[k]? = w.heap[k]? ∧ Off τ T k
  nx : S.nx ≤ T.nx
  old : ∀ n, n < S.nx → σ n = none → τ n = none
theorem Fr.refl (σ : Sg) (S : St) (w : World) : Fr σ S w σ S w := ⟨Sub.refl σ, Nat.le_refl _, fun _ _ h => ⟨rfl, h⟩, Nat.le_refl _, fun _ _ h => h⟩
theorem Fr.trans {a b c : Sg} {R S T : St} {w w' w'' : World} (h : Fr a R w b S w') (k : Fr b S w' c T w'') : Fr a R w c T w'' :=
  ⟨h.sub.trans k.sub, Nat.le_trans h.size k.size, fun j hj ho => let ⟨h1, h2⟩ := h.keep j hj ho; let ⟨k1, k2⟩ := k.keep j (Nat.lt_of_lt_of_le hj h.size) h2; ⟨k1.trans h1, k2⟩, Nat.le_trans h.nx k.nx, fun n hn hs => k.old n (Nat.lt_of_lt_of_le hn h.nx) (h.old n hn hs)⟩
noncomputable def Sg.put (σ : Sg) (n : Nat) (B : Blk) : Sg := fun k => if k = n then some B else σ k
theorem Sg.sub_put {σ : Sg} {n : Nat} (B : Blk) (h : σ n = none) : Sub σ (σ.put n B) := fun k C hk => by
  unfold Sg.put
  by_cases e : k = n
  · rw [e, h] at hk; cases hk
  · rw [if_neg e]; exact hk
theorem Sg.put_same (σ : Sg) (n : Nat) (B : Blk) : σ.put n B n = some B := by simp [Sg.put]
noncomputable def purse : Nat := 48
theorem Ok.nx_none {w0 w : World} {σ : Sg} {S : St} (h : Ok w0 σ S w) : σ S.nx = none := by
  cases hs : σ S.nx with
  | none => rfl
  | some B => exact absurd (h.fresh _ _ hs) (Nat.lt_irrefl _)
theorem heap_new (w : World) (o : Obj) : (w.alloc o).heap[w.heap.size]? = some o := by
  show (w.heap.push o)[w.heap.size]? = _
  exact Array.getElem?_push_size
theorem heap_old (w : World) (o : Obj) (k : Nat) (h : k < w.heap.size) : (w.alloc o).heap[k]? = w.heap[k]? := by
  show (w.heap.push o)[k]? = _
  rw [Array.getElem?_push, if_neg (Nat.ne_of_lt h)]
/-- What a run leaves of the world beside the heap. -/
noncomputable def Beside (w w' : World) : Prop := w'.os = w.os ∧ w'.tape = w.tape ∧ w'.output = w.output
theorem Beside.refl (w : World) : Beside w w := ⟨rfl, rfl, rfl⟩
theorem push_new {w W : World} {o : Obj} (h : W.heap = w.heap.push o) : W.heap[w.heap.size]? = some o := by
  rw [h]
  exact Array.getElem?_push_size
theorem push_old {w W : World} {o : Obj} (h : W.heap = w.heap.push o) (k : Nat) (hk : k < w.heap.size) : W.heap[k]? = w.heap[k]? := by
  rw [h, Array.getElem?_push, if_neg (Nat.ne_of_lt hk)]
/-- A new block behind the next name. -/
theorem Ok.new {w0 w W : World} {σ : Sg} {S : St} (h : Ok w0 σ S w) {H' : Tr AO} {nm : Nat} (hnm : σ nm = none) (hge : S.nx ≤ nm) {o : AO} {obj : Obj} {base tot nx' : Nat} (hx : S.nx ≤ nx') (hx' : nm < nx') (hu : Tr.upd (some o) purse S.H nm = some H')
    (hW : W.heap = w.heap.push obj) (hB : Beside w W) (ho : o.R (σ.put nm ⟨w.heap.size, base, tot, nov⟩) W ⟨w.heap.size, base, tot, nov⟩) :
    Ok w0 (σ.put nm ⟨w.heap.size, base, tot, nov⟩) ⟨H', nx'⟩ W ∧ Fr σ S w (σ.put nm ⟨w.heap.size, base, tot, nov⟩) ⟨H', nx'⟩ W := by
  have hsub := Sg.sub_put ⟨w.heap.size, base, tot, nov⟩ hnm
  have hg := Tr.get_upd _ _ _ _ _ hu
  have hsz : W.heap.size = w.heap.size + 1 := by rw [hW]; exact Array.size_push ..
  have live : ∀ n o', H'.get n = some o' → (n = nm ∧ o' = o) ∨ (n ≠ nm ∧ S.H.get n = some o') := fun n o' hl => by
    rw [hg] at hl
    by_cases e : n = nm
    · rw [if_pos e] at hl; exact Or.inl ⟨e, (Option.some.inj hl).symm⟩
    · rw [if_neg e] at hl; exact Or.inr ⟨e, hl⟩
  refine ⟨⟨⟨hB.1.trans h.below.os, hB.2.1.trans h.below.tape, hB.2.2.trans h.below.output, by have := h.below.size; omega, fun k hk => (push_old hW k (Nat.lt_of_lt_of_le hk h.below.size)).trans (h.below.block k hk)⟩, fun n o' hl => ?_, fun n m o1 o2 B1 B2 h1 h2 s1 s2 e => ?_, fun n B hs => ?_⟩, hsub, by omega, fun k hk hoff => ⟨push_old hW k hk, fun n o' B hl hs => ?_⟩, hx, fun n hn hs => by unfold Sg.put; rw [if_neg (by omega)]; exact hs⟩
  · rcases live n o' hl with ⟨rfl, rfl⟩ | ⟨hne, hl'⟩
    · exact ⟨_, Sg.put_same _ _ _, h.below.size, by show w.heap.size < _; omega, ho⟩
    · obtain ⟨B, b1, b2, b3, b4⟩ := h.live n o' hl'
      exact ⟨B, hsub _ _ b1, b2, by omega, (b4.mono hsub).same (push_old hW _ b3)⟩
  · rcases live n o1 h1 with ⟨rfl, rfl⟩ | ⟨hne, h1'⟩ <;> rcases live m o2 h2 with ⟨hm, rfl⟩ | ⟨hme, h2'⟩
    · exact hm.symm
    · obtain ⟨B, b1, b2, b3, b4⟩ := h.live m o2 h2'
      rw [Sg.put_same] at s1
      rw [hsub _ _ b1] at s2
      obtain rfl := Option.some.inj s1
      obtain rfl := Option.some.inj s2
      exact absurd e.symm (Nat.ne_of_lt b3)
    · subst hm
      obtain ⟨B, b1, b2, b3, b4⟩ := h.live n o1 h1'
      rw [Sg.put_same] at s2
      rw [hsub _ _ b1] at s1
      obtain rfl := Option.some.inj s1
      obtain rfl := Option.some.inj s2
      exact absurd e (Nat.ne_of_lt b3)
    · obtain ⟨C1, c1, -⟩ := h.live n o1 h1'
      obtain ⟨C2, c2, -⟩ := h.live m o2 h2'
      rw [hsub _ _ c1] at s1
      rw [hsub _ _ c2] at s2
      obtain rfl := Option.some.inj s1
      obtain rfl := Option.some.inj s2
      exact h.inj n m o1 o2 _ _ h1' h2' c1 c2 e
  · unfold Sg.put at hs
    by_cases e : n = nm
    · subst e; exact hx'
    · rw [if_neg e] at hs; exact Nat.lt_of_lt_of_le (h.fresh n B hs) hx
  · rcases live n o' hl with ⟨rfl, rfl⟩ | ⟨hne, hl'⟩
    · rw [Sg.put_same] at hs
      obtain rfl := Option.some.inj hs
      exact Nat.ne_of_gt hk
    · obtain ⟨C, c1, -⟩ := h.live n o' hl'
      rw [hsub _ _ c1] at hs
      obtain rfl := Option.some.inj hs
      exact hoff n o' _ hl' c1
/-- A live block turned to another object. -/
theorem Ok.turn {w0 w w' : World} {σ : Sg} {S : St} (h : Ok w0 σ S w) {H' : Tr AO} {n : Nat} {o o' : AO} {B : Blk} (hn : S.H.get n = some o) (hB : σ n = some B) (hu : Tr.upd (some o') purse S.H n = some H')
    (hos : Beside w w') (hsz : w'.heap.size = w.heap.size) (hk : ∀ k, k ≠ B.b → w'.heap[k]? = w.heap[k]?) (ho : o'.R σ w' B) :
    Ok w0 σ ⟨H', S.nx⟩ w' ∧ Fr σ S w σ ⟨H', S.nx⟩ w' := by
  have hg := Tr.get_upd _ _ _ _ _ hu
  obtain ⟨C, c1, c2, c3, -⟩ := h.live n o hn
  obtain rfl := Option.some.inj (hB.symm.trans c1)
  have live : ∀ m q, H'.get m = some q → (m = n ∧ q = o') ∨ (m ≠ n ∧ S.H.get m = some q) := fun m q hl => by
    rw [hg] at hl
    by_cases e : m = n
    · rw [if_pos e] at hl; exact Or.inl ⟨e, (Option.some.inj hl).symm⟩
    · rw [if_neg e] at hl; exact Or.inr ⟨e, hl⟩
  have was : ∀ m q, H'.get m = some q → ∃ q', S.H.get m = some q' := fun m q hl => by
    rcases live m q hl with ⟨rfl, rfl⟩ | ⟨-, hl'⟩
    · exact ⟨o, hn⟩
    · exact ⟨q, hl'⟩
  refine ⟨⟨⟨hos.1.trans h.below.os, hos.2.1.trans h.below.tape, hos.2.2.trans h.below.output, by rw [hsz]; exact h.below.size, fun k hk' => (hk k (by omega)).trans (h.below.block k hk')⟩, fun m q hl => ?_, fun m1 m2 q1 q2 B1 B2 h1 h2 s1 s2 e => ?_, h.fresh⟩,
    Sub.refl σ, by omega, fun k hk' hoff => ⟨hk k (fun e => hoff n o B hn hB e.symm), fun m q C hl hs => ?_⟩, Nat.le_refl _, fun _ _ h => h⟩
  · rcases live m q hl with ⟨rfl, rfl⟩ | ⟨hne, hl'⟩
    · exact ⟨B, hB, c2, by omega, ho⟩
    · obtain ⟨C, d1, d2, d3, d4⟩ := h.live m q hl'
      exact ⟨C, d1, d2, by omega, d4.same (hk _ (fun e => hne (h.inj m n q o C B hl' hn d1 hB e)))⟩
  · obtain ⟨q1', g1⟩ := was m1 q1 h1
    obtain ⟨q2', g2⟩ := was m2 q2 h2
    exact h.inj m1 m2 q1' q2' B1 B2 g1 g2 s1 s2 e
  · obtain ⟨q', g⟩ := was m q hl
    exact hoff m q' C g hs
end Go.Proofs.YtffccgnhdpjlaaaGreatDoor.Ev
