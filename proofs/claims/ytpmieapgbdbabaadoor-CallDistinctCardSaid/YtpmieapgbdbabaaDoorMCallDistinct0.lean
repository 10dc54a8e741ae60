/- Words, walks and plain laws that the row of the law CallDistinct rests on. -/
import Derived.Below
import Derived.Deep.Draws
import Derived.Deep.AppendLies
import Derived.Maps.AppendAt
import Derived.OwnWalk
import Derived.Laws.BytesArg
import Derived.Laws.MakeOwn
import Derived.Laws.OwnMore
import Derived.Deep.OwnRows
import Derived.Tactics
import Derived.Lib.ConvBytes
import Derived.Laws.Slices
import Derived.WalkKit
import Derived.KernelRfl
import Derived.RowKit3
import Derived.Deep.LoopGhost
import Derived.Deep.QuietTactic
import Derived.BigQuiet
import Derived.WideLaws
import Derived.Deep.DeepCutAuto
import Derived.Deep.CutBlock
import Derived.Deep.RegionHeld3
import Derived.Laws.Rows
import Derived.Lib.AppendStr
import Derived.ArgAppend
import Derived.Laws.IdiomCopy
import Derived.RowKit
import Derived.OrdersHeld
import Derived.Laws.BitsLemmas
import Derived.Laws.StructEq
import Derived.Test.YtpmieapgbdbabaaDoorProg
import Derived.Shelf.Strings.Builder1
import Derived.Shelf.Strings.Builder2
import Derived.Shelf.Strings.OnBuilder
import Derived.Shelf.Strings.Trim
import Derived.Shelf.Small.Utf8
import Derived.Shelf.Small.Strs
import Derived.Shelf.Small.Wraps
import Derived.Shelf.Strings.BuilderF
import Derived.Shelf.Utf8.RuneCount
import Derived.Shelf.Strconv.Atoi
import Derived.Shelf.Strconv.Itoa0
import Derived.Shelf.Strconv.Itoa1
import Derived.Shelf.LaysM
import Derived.Shelf.Strconv.Itoa2
import Derived.Shelf.Strconv.Itoa3
import Derived.Shelf.Strconv.AtoiErrFast
import Derived.Shelf.Strconv.ParseIntEmpty
import Derived.Shelf.Strconv.AtoiFail
import Derived.Shelf.Strconv.Clone
import Derived.Shelf.Strconv.SyntaxError
import Derived.Shelf.LaysC
import Derived.Shelf.Strconv.ToError
import Derived.Shelf.Strconv.AtoiErr
import Derived.Shelf.Strconv.ErrVar
import Derived.Shelf.Strconv.Lower
import Derived.Shelf.Strconv.ParseUint10
import Derived.Shelf.Strconv.ParseUint10Empty
import Derived.Shelf.Strconv.ParseUint10Any
import Derived.Shelf.Strconv.ParseInt10
import Derived.Shelf.Strconv.AtoiLong
import Derived.Shelf.Strconv.AtoiInnerAll
import Derived.Shelf.Strconv.RangeError
import Derived.Shelf.Strconv.ToErrorRange
import Derived.Shelf.Strconv.AtoiAll
import Derived.Shelf.Strconv.ErrVarAll
import Derived.Shelf.Strings.Search1
import Derived.Shelf.Strings.Search2
import Derived.Shelf.Strings.Search3
import Derived.Shelf.Strings.Cut
import Derived.Shelf.Strings.Count
import Derived.Shelf.Strings.Shaped
import Derived.Shelf.Strings.Prefix
import Derived.Shelf.Strings.Split
import Derived.Shelf.Strings.SplitShaped
import Derived.Shelf.Unicode.Decode
import Derived.Shelf.Strings.Runes
import Derived.Shelf.Strings.RuneCount
import Derived.Shelf.Strings.AsciiSet
import Derived.Shelf.Strings.Explode
import Derived.Shelf.Unicode.DecodeSlow
import Derived.Shelf.Unicode.DecodeAny
import Derived.Shelf.Unicode.DecodeLast
import Derived.RegionTactic
import Derived.WalkSpells
import Derived.Deep.RegionWith
import Derived.Maps.OwnSet
import Derived.Maps.Views
import Derived.DeepKeys4
section
set_option linter.unusedVariables false
set_option linter.unusedSimpArgs false
namespace Go.Proofs.YtpmieapgbdbabaaDoorW.PrintWords
open Go.RowKit

/-- A fact that the walk's simp doesn't look into. -/
structure Aside0 (p : Prop) : Prop where mk :: (out : p)
/-- The world is the old one, some orders having been drawn. -/
structure Drawn0 (w w' : World) : Prop where mk :: (out : ∃ n, w' = w.drewN n)
theorem Drawn0.refl (w : World) : Drawn0 w w := ⟨⟨0, rfl⟩⟩
theorem Drawn0.step {w w' : World} (h : Drawn0 w w') (n : Nat) : Drawn0 w (w'.drewN n) := by
  obtain ⟨m, rfl⟩ := h
  exact ⟨⟨m + n, World.drewN_drewN ..⟩⟩
theorem Drawn0.grown {w w' : World} (h : Drawn0 w w') : Grown w w' := by
  obtain ⟨n, rfl⟩ := h
  induction n with
  | zero => exact Grown.refl _
  | succ n ih => rw [← World.drew_drewN]; exact Grown.drew ih
theorem Drawn0.below {w w' : World} (h : Drawn0 w w') : Below w.heap.size w w' := by
  obtain ⟨n, rfl⟩ := h
  induction n with
  | zero => exact Below.refl _ _
  | succ n ih => rw [← World.drew_drewN]; exact ih.drew


def rd (xs : List Int) (i : Int) : Int := xs.getD i.toNat 0
def bt (s : ByteArray) (i : Int) : Int := if h : i.toNat < s.size then ((s[i.toNat]'h).toNat : Int) else 0
theorem bt_at (s : ByteArray) (i : Int) : ∀ h : i.toNat < s.size, ((s[i.toNat]'h).toNat : Int) = bt s i := fun h => by simp [bt, h]
theorem bt_range (s : ByteArray) (i : Int) : 0 ≤ bt s i ∧ bt s i ≤ 255 := by
  unfold bt
  split
  · rename_i h
    have := (s[i.toNat]'h).toNat_lt
    omega
  · omega
theorem below_alloc {w W : World} (h : Below w.heap.size w W) (o : Obj) : Below w.heap.size w (W.alloc o) := h.alloc h.size o
theorem below_drew {B : Nat} {w W : World} (h : Below B w W) : Below B w W.drew := ⟨h.os, h.tape, h.output, h.size, h.block⟩
theorem pw_below_drewN {B : Nat} {w W : World} (h : Below B w W) (n : Nat) : Below B w (W.drewN n) := ⟨h.os, h.tape, h.output, h.size, h.block⟩
theorem below_then {B : Nat} {w w1 w2 : World} (h : Below B w w1) (hB : B ≤ w1.heap.size) (k : Below w1.heap.size w1 w2) : Below B w w2 :=
  h.trans ⟨k.os, k.tape, k.output, k.size, fun i hi => k.block i (Nat.lt_of_lt_of_le hi hB)⟩
theorem grown_of_below {w w1 : World} (h : Below w.heap.size w w1) (row : Option Nat) : w.grownBy w1 row := ⟨h.os, h.tape, h.output, h.size, fun i hi _ => h.block i hi⟩
theorem pw_cell_below {w w1 : World} (h : Below w.heap.size w w1) {a : Addr} {v : Value} (hc : w.cell? a = some v) : w1.cell? a = some v := (h.cell (World.block_lt_of_cell? w a hc)).trans hc

def ReadsInt (w : World) (k : IntKind) (A : Option Addr) (n : Nat) (xs : List Int) : Prop :=
  xs.length = n ∧ n ≤ 9223372036854775807 ∧ (0 < n → ∃ ad, A = some ad ∧ ∀ j, j < n → w.cell? (ad.add j) = some (.int k (xs.getD j 0)))
theorem ReadsInt.at_ {w : World} {k : IntKind} {A : Option Addr} {n : Nat} {xs : List Int} (h : ReadsInt w k A n xs) (i : Int) (h0 : 0 ≤ i) (h1 : i < n) : ∃ ad, A = some ad ∧ w.cell? (ad.add i.toNat) = some (.int k (rd xs i)) := by
  obtain ⟨ad, e, hc⟩ := h.2.2 (by omega)
  exact ⟨ad, e, hc _ (by omega)⟩
theorem ReadsInt.below {w w1 : World} {k : IntKind} {A : Option Addr} {n : Nat} {xs : List Int} (h : ReadsInt w k A n xs) (hb : Below w.heap.size w w1) : ReadsInt w1 k A n xs :=
  ⟨h.1, h.2.1, fun hn => by
    obtain ⟨ad, e, hc⟩ := h.2.2 hn
    exact ⟨ad, e, fun j hj => pw_cell_below hb (hc j hj)⟩⟩

theorem own_base {w : World} {base : Nat} {e : TypeId} {size n : Nat} {v : Value} {xs : List Value} (h : w.ownsRow base e size v n xs) (k : Nat) (hk : v.ownBlock = some k) : base ≤ k := by
  rcases h.2 with ⟨rfl, _⟩ | ⟨g, cap, cur, rfl, hb, _⟩
  · simp [Value.ownBlock] at hk
  · have : g = k := by simpa [Value.ownBlock] using hk
    omega
theorem own_lt {w : World} {base : Nat} {e : TypeId} {size n : Nat} {v : Value} {xs : List Value} (h : w.ownsRow base e size v n xs) (k : Nat) (hk : v.ownBlock = some k) : k < w.heap.size := by
  rcases h.2 with ⟨rfl, _⟩ | ⟨g, cap, cur, rfl, hb, hh, _⟩
  · simp [Value.ownBlock] at hk
  · have : g = k := by simpa [Value.ownBlock] using hk
    subst this
    exact (Array.getElem?_eq_some_iff.1 hh).1
theorem pw_own_below {w w1 : World} {base : Nat} {e : TypeId} {size n : Nat} {v : Value} {xs : List Value} (h : w.ownsRow base e size v n xs) (hb : Below w.heap.size w w1) : w1.ownsRow base e size v n xs :=
  h.kept (grown_of_below hb none) (by cases v.ownBlock <;> simp)
/-- The shape of whatever is owned. -/
theorem own_slice {w : World} {base n : Nat} {e : TypeId} {size : Nat} {v : Value} {xs : List Value} (h : w.ownsRow base e size v n xs) : ∃ A c, v = .slice A n c := by
  rcases h.2 with ⟨rfl, rfl⟩ | ⟨g, cap, cur, rfl, _⟩
  · exact ⟨none, 0, rfl⟩
  · exact ⟨_, cap, rfl⟩
section
variable {P : Program} {ops : Array Oper} {rest : List Oper} {o : Oper} {a : Act} {Q : Exit → Act → World → Prop}

end

section
variable {P : Program}
end
section
variable {P : Program} {ops : Array Oper} {rest : List Oper} {o : Oper} {a : Act} {Q : Exit → Act → World → Prop}
end

def bytesOf (s : ByteArray) : List Int := s.data.toList.map fun b => (b.toNat : Int)
theorem data_length (s : ByteArray) : s.data.toList.length = s.size := by rw [Array.length_toList]; rfl
theorem bytesOf_length (s : ByteArray) : (bytesOf s).length = s.size := by rw [bytesOf, List.length_map, data_length]
/-- Laid ahead: 'have kb := fun W => print_bytes (P := A.prog) SRC DST E A.underlyingSRC A.underlyingDST A.underlyingE s W'. -/
theorem print_bytes {P : Program} (src dst e : TypeId) {u : TypeDesc} (hs : P.underlying src = some u) (hd : P.underlying dst = some (.slice e)) (he : P.underlying e = some (.int .u8)) (s : ByteArray) (W : World) :
    (convert src dst (.string s)).run P W = .ok (.slice (some ⟨W.heap.size, 0, none⟩) s.size (grownCap W s.size 0 e)) (Lib.bytesWorld W e s) := Lib.run_convert_string_bytes W src dst e s hs hd he
theorem bytes_below {B : Nat} {w W : World} (h : Below B w W) (hB : B ≤ W.heap.size) (e : TypeId) (s : ByteArray) : Below B w (Lib.bytesWorld W e s) :=
  h.trans ⟨rfl, rfl, rfl, by rw [Lib.bytesWorld_size]; omega, fun i hi => Lib.bytesWorld_at_old W e s i (by omega)⟩
/-- Where the first answers, the second answers the same. -/
def LeO {α : Type} (a b : Option α) : Prop := ∀ r, a = some r → b = some r
theorem LeO.refl {α : Type} (a : Option α) : LeO a a := fun _ h => h
theorem LeO.none {α : Type} (b : Option α) : LeO Option.none b := fun _ h => by cases h
theorem LeO.trans {α : Type} {a b c : Option α} (h : LeO a b) (k : LeO b c) : LeO a c := fun r hr => k r (h r hr)
theorem LeO.bind {α β : Type} {a a' : Option α} {f f' : α → Option β} (h : LeO a a') (k : ∀ x, LeO (f x) (f' x)) : LeO (a.bind f) (a'.bind f') := by
  intro r hr
  obtain ⟨x, hx, hf⟩ := Option.bind_eq_some_iff.1 hr
  exact Option.bind_eq_some_iff.2 ⟨x, h x hx, k x r hf⟩
theorem LeO.map {α β : Type} {a a' : Option α} (f : α → β) (h : LeO a a') : LeO (a.map f) (a'.map f) := by
  intro r hr
  obtain ⟨x, hx, hf⟩ := Option.map_eq_some_iff.1 hr
  exact Option.map_eq_some_iff.2 ⟨x, h x hx, hf⟩
theorem more_rounds {α : Type} {g : Nat → Option α} (h : ∀ k, LeO (g k) (g (k + 1))) (k : Nat) : ∀ j, LeO (g k) (g (k + j))
  | 0 => LeO.refl _
  | j + 1 => (more_rounds h k j).trans (h (k + j))
theorem at_rounds {α : Type} {g : Nat → Option α} (h : ∀ k, LeO (g k) (g (k + 1))) {k k' : Nat} (hk : k ≤ k') {r : α} (hr : g k = some r) : g k' = some r := by
  have := more_rounds h k (k' - k) r hr
  rwa [Nat.add_sub_cancel' hk] at this
def Reps {α : Type} (R : α → List Value → Prop) (size : Nat) (ps : List α) (cs : List Value) : Prop :=
  cs.length = ps.length * size ∧ ∀ j p, ps[j]? = some p → R p ((cs.drop (j * size)).take size)
theorem Reps.none {α : Type} (R : α → List Value → Prop) (size : Nat) : Reps R size [] [] := ⟨by simp, fun j p h => by simp at h⟩
theorem Reps.imp_ {α : Type} {R R' : α → List Value → Prop} {size : Nat} {ps : List α} {cs : List Value} (h : Reps R size ps cs) (hR : ∀ p c, R p c → R' p c) : Reps R' size ps cs := ⟨h.1, fun j p hj => hR _ _ (h.2 j p hj)⟩

def ReadsRow {α : Type} (R : α → List Value → Prop) (size : Nat) (w : World) (A : Option Addr) (n : Nat) (ps : List α) : Prop :=
  ps.length = n ∧ n ≤ 9223372036854775807 ∧ (0 < n → ∃ ad, A = some ad ∧ ∀ j p, ps[j]? = some p → ∃ c, c.length = size ∧ R p c ∧ ∀ i u, c[i]? = some u → w.cell? (ad.add (j * size + i)) = some u)
theorem ReadsRow.get_ {α : Type} {R : α → List Value → Prop} {size : Nat} {w : World} {A : Option Addr} {n : Nat} {ps : List α} (h : ReadsRow R size w A n ps) (d : α) (i : Int) (h0 : 0 ≤ i) (h1 : i < n) :
    ∃ ad c, A = some ad ∧ c.length = size ∧ R (ps.getD i.toNat d) c ∧ ∀ j u, c[j]? = some u → w.cell? (ad.add (i.toNat * size + j)) = some u := by
  obtain ⟨ad, e, hc⟩ := h.2.2 (by omega)
  have hl : i.toNat < ps.length := by have := h.1; omega
  obtain ⟨c, hs, hr, hcell⟩ := hc i.toNat _ (List.getElem?_eq_getElem hl)
  refine ⟨ad, c, e, hs, ?_, hcell⟩
  rw [List.getD_eq_getElem?_getD, List.getElem?_eq_getElem hl]
  exact hr
theorem ReadsRow.imp_ {α : Type} {R R' : α → List Value → Prop} {size : Nat} {w w1 : World} {A : Option Addr} {n : Nat} {ps : List α} (h : ReadsRow R size w A n ps) (hb : Below w.heap.size w w1) (hR : ∀ p c, R p c → R' p c) : ReadsRow R' size w1 A n ps :=
  ⟨h.1, h.2.1, fun hn => by
    obtain ⟨ad, e, hc⟩ := h.2.2 hn
    refine ⟨ad, e, fun j p hj => ?_⟩
    obtain ⟨c, hs, hr, hcell⟩ := hc j p hj
    exact ⟨c, hs, hR _ _ hr, fun i u hu => pw_cell_below hb (hcell i u hu)⟩⟩
theorem own_reads_row {α : Type} {R : α → List Value → Prop} {w : World} {base n size : Nat} {e : TypeId} {v : Value} {ps : List α} {cs : List Value} (h : w.ownsRow base e size v n cs) (hR : Reps R size ps cs) (hn : ps.length = n) :
    ∃ A c, v = .slice A n c ∧ ReadsRow R size w A n ps := by
  rcases Nat.eq_zero_or_pos n with h0 | h0
  · rcases h.2 with ⟨rfl, rfl⟩ | ⟨g, cap, cur, rfl, _⟩
    · exact ⟨none, 0, rfl, hn, by omega, fun hp => absurd hp (by omega)⟩
    · exact ⟨_, cap, rfl, hn, by omega, fun hp => absurd hp (by omega)⟩
  · obtain ⟨g, cap, rfl, _, _⟩ := h.form h0
    have hm : n ≤ 9223372036854775807 := by
      rcases h.2 with ⟨_, h1⟩ | ⟨g', cap', cur, he, _, _, h1, h2, _⟩
      · omega
      · simp only [maxLen] at h2
        omega
    refine ⟨_, cap, rfl, hn, hm, fun _ => ⟨_, rfl, fun j p hj => ⟨(cs.drop (j * size)).take size, ?_, hR.2 j p hj, fun i u hu => ?_⟩⟩⟩
    · have hjl := (List.getElem?_eq_some_iff.1 hj).1
      have h1 : j * size + size ≤ cs.length := by rw [hR.1, ← Nat.succ_mul]; exact Nat.mul_le_mul_right _ hjl
      rw [List.length_take, List.length_drop]
      omega
    · refine h.cells (g := g) rfl _ u ?_
      rw [List.getElem?_take] at hu
      split at hu
      · rw [List.getElem?_drop] at hu
        exact hu
      · cases hu
/-- A field's address as_ the walk spells it. -/
theorem add_field (ad : Addr) (m j : Nat) (hj : 0 < j) : ad.add (m + j) = ⟨(ad.add m).block, (ad.add m).off + j, none⟩ := by
  unfold Addr.add
  by_cases hm : m = 0
  · subst hm
    simp [Nat.ne_of_gt hj]
  · simp [hm, Nat.add_assoc]

section
variable {P : Program} {ops : Array Oper} {rest : List Oper} {o : Oper} {a : Act} {Q : Exit → Act → World → Prop}
end

theorem own_ne {w : World} {base : Nat} {e t : TypeId} {size n g : Nat} {v : Value} {xs : List Value} {cs : Array Value} (h : w.ownsRow base e size v n xs) (hg : w.heap[g]? = some (.cells cs t (0, 0))) (hne : e ≠ t) : some g ≠ v.ownBlock := by
  rcases h.2 with ⟨rfl, _⟩ | ⟨g', cap, cur, rfl, _, hh, _⟩
  · simp [Value.ownBlock]
  · intro he
    have : g = g' := by simpa [Value.ownBlock] using he
    subst this
    rw [hg] at hh
    injection hh with hh
    injection hh with _ ht
    exact hne ht.symm
theorem blk_set {w : World} {g : Nat} {t : TypeId} {cs : Array Value} (h : w.heap[g]? = some (.cells cs t (0, 0))) (i : Nat) (u : Value) : (w.setCell ⟨g, i, none⟩ u).heap[g]? = some (.cells (cs.setIfInBounds i u) t (0, 0)) := by
  simp [World.setCell, Array.getElem?_modify, h]
theorem blk_far {w : World} {g : Nat} {t : TypeId} {cs : Array Value} (h : w.heap[g]? = some (.cells cs t (0, 0))) {p : Addr} (hp : g ≠ p.block) (u : Value) : (w.setCell p u).heap[g]? = some (.cells cs t (0, 0)) := (Below.heap_setCell w p u g hp).trans h
theorem blk_lt {w : World} {g : Nat} {o : Obj} (h : w.heap[g]? = some o) : g < w.heap.size := (Array.getElem?_eq_some_iff.1 h).1
theorem blk_cell {w : World} {g : Nat} {t : TypeId} {cs : Array Value} (h : w.heap[g]? = some (.cells cs t (0, 0))) (i : Nat) : w.cell? ⟨g, i, none⟩ = cs[i]? := cell_of_row w g i cs t (0, 0) h
theorem blk_frozen {w : World} {g : Nat} {t : TypeId} {cs : Array Value} (h : w.heap[g]? = some (.cells cs t (0, 0))) (i : Nat) : w.frozen? ⟨g, i, none⟩ = false := by simp [World.frozen?, h]
def KeepBut (w w' : World) (g : Nat) (row : Option Nat) : Prop := w.heap.size ≤ w'.heap.size ∧ ∀ i, i < w.heap.size → i ≠ g → some i ≠ row → w'.heap[i]? = w.heap[i]?
theorem KeepBut.refl (w : World) (g : Nat) (row : Option Nat) : KeepBut w w g row := ⟨Nat.le_refl _, fun _ _ _ _ => rfl⟩
theorem KeepBut.of_below {w w1 : World} (h : Below w.heap.size w w1) (g : Nat) (row : Option Nat) : KeepBut w w1 g row := ⟨h.size, fun i hi _ _ => h.block i hi⟩
theorem KeepBut.trans {w w1 w2 : World} {g : Nat} {row row1 : Option Nat} (h : KeepBut w w1 g row) (k : KeepBut w1 w2 g row1) (hr : row1 = row ∨ ∃ b, row1 = some b ∧ w.heap.size ≤ b) : KeepBut w w2 g row :=
  ⟨Nat.le_trans h.1 k.1, fun i hi hg hn => by
    refine (k.2 i (Nat.lt_of_lt_of_le hi h.1) hg ?_).trans (h.2 i hi hg hn)
    rcases hr with rfl | ⟨b, rfl, hb⟩
    · exact hn
    · intro e
      injection e with e
      omega⟩
/-- Another block, another row: they live on. -/
theorem KeepBut.blk {w w1 : World} {g g' : Nat} {row : Option Nat} {o : Obj} (h : KeepBut w w1 g row) (hb : w.heap[g']? = some o) (hg : g' ≠ g) (hr : some g' ≠ row) : w1.heap[g']? = some o := (h.2 g' (blk_lt hb) hg hr).trans hb
theorem KeepBut.own {w w1 : World} {g : Nat} {row : Option Nat} {base : Nat} {e : TypeId} {size n : Nat} {v : Value} {xs : List Value} (h : KeepBut w w1 g row) (ho : w.ownsRow base e size v n xs) (hg : v.ownBlock ≠ some g) (hr : v.ownBlock = none ∨ v.ownBlock ≠ row) : w1.ownsRow base e size v n xs := by
  obtain ⟨h1, h2⟩ := ho
  refine ⟨h1, ?_⟩
  rcases h2 with h2 | ⟨b, cap, cur, rfl, hb, hh, r⟩
  · exact .inl h2
  · refine .inr ⟨b, cap, cur, rfl, hb, h.blk hh ?_ ?_, r⟩
    · intro e
      exact hg (by rw [← e]; rfl)
    · rcases hr with hr | hr
      · simp [Value.ownBlock] at hr
      · exact hr
def Ev {α : Type} (g : Nat → Option α) (r : α) : Prop := ∃ K, ∀ k, K ≤ k → g k = some r
theorem Ev.of {α : Type} {g : Nat → Option α} {r : α} (hg : ∀ k, LeO (g k) (g (k + 1))) {k : Nat} (h : g k = some r) : Ev g r := ⟨k, fun _ hk => at_rounds hg hk h⟩
theorem Ev.bind {α β : Type} {g : Nat → Option α} {f : Nat → α → Option β} {a : α} {r : β} (h : Ev g a) (k : Ev (fun n => f n a) r) : Ev (fun n => (g n).bind (f n)) r := by
  obtain ⟨K, h⟩ := h
  obtain ⟨K', k⟩ := k
  refine ⟨max K K', fun n hn => ?_⟩
  have h1 := h n (by omega)
  have h2 := k n (by omega)
  simp only [h1, Option.bind_some]
  exact h2
/-- One round of a loop. -/
theorem Ev.step {α : Type} {g f : Nat → Option α} {r : α} (h : ∀ k, g (k + 1) = f k) (k : Ev f r) : Ev g r := by
  obtain ⟨K, k⟩ := k
  refine ⟨K + 1, fun n hn => ?_⟩
  obtain ⟨m, rfl⟩ : ∃ m, n = m + 1 := ⟨n - 1, by omega⟩
  rw [h]
  exact k m (by omega)
section
variable {P : Program} {ops : Array Oper} {o : Oper} {a : Act} {Q : Exit → Act → World → Prop} {K : Act → World → Prop}
end
theorem own_weaken {w : World} {base base' : Nat} {e : TypeId} {size n : Nat} {v : Value} {xs : List Value} (h : w.ownsRow base e size v n xs) (hb : base' ≤ base) : w.ownsRow base' e size v n xs := by
  obtain ⟨h1, h2⟩ := h
  refine ⟨h1, ?_⟩
  rcases h2 with h2 | ⟨g, cap, cur, rfl, hg, r⟩
  · exact .inl h2
  · exact .inr ⟨g, cap, cur, rfl, Nat.le_trans hb hg, r⟩
section
variable {α : Type} {enc : α → Value} {d : α}
def rdOf (d : α) (xs : List α) (i : Int) : α := xs.getD i.toNat d
def ReadsOf (enc : α → Value) (d : α) (w : World) (A : Option Addr) (n : Nat) (xs : List α) : Prop :=
  xs.length = n ∧ n ≤ 9223372036854775807 ∧ (0 < n → ∃ ad, A = some ad ∧ ∀ j, j < n → w.cell? (ad.add j) = some (enc (xs.getD j d)))
theorem ReadsOf.at_ {w : World} {A : Option Addr} {n : Nat} {xs : List α} (h : ReadsOf enc d w A n xs) (i : Int) (h0 : 0 ≤ i) (h1 : i < n) : ∃ ad, A = some ad ∧ w.cell? (ad.add i.toNat) = some (enc (rdOf d xs i)) := by
  obtain ⟨ad, e, hc⟩ := h.2.2 (by omega)
  exact ⟨ad, e, hc _ (by omega)⟩
theorem ReadsOf.below {w w1 : World} {A : Option Addr} {n : Nat} {xs : List α} (h : ReadsOf enc d w A n xs) (hb : Below w.heap.size w w1) : ReadsOf enc d w1 A n xs :=
  ⟨h.1, h.2.1, fun hn => by
    obtain ⟨ad, e, hc⟩ := h.2.2 hn
    exact ⟨ad, e, fun j hj => pw_cell_below hb (hc j hj)⟩⟩
end
section
variable {α : Type} {P : Program} {ops : Array Oper} {rest : List Oper} {o : Oper} {a : Act} {Q : Exit → Act → World → Prop}
end

theorem blk_below {w w1 : World} {g : Nat} {o : Obj} (h : w.heap[g]? = some o) (hb : Below w.heap.size w w1) : w1.heap[g]? = some o := (hb.block g (blk_lt h)).trans h
theorem blk_new (w : World) (o : Obj) : (w.alloc o).heap[w.heap.size]? = some o := heap_alloc_new w o
section
variable {P : Program}
theorem results_ct {fn : Func} {p u : Tmp} {ty : TypeId} (h : fn.results = #[.cell p ty, .tmp u]) (tmps : Array Value) (w : World) (g : Nat) (t : TypeId) (cs : Array Value) (fr : Nat × Nat) (d : TypeDesc)
    (hp : tmps.getD p undef = .pointer (some ⟨g, 0, none⟩)) (hg : w.heap[g]? = some (.cells cs t fr))
    (hu : P.underlying ty = some d) (hd : (match d with | .struct _ | .array _ _ => true | _ => false) = true) (hi : (P.info? ty).map (·.size) = some cs.size) :
    (results fn tmps).run P w = .ok (.tuple #[.agg cs, tmps.getD u undef]) w := by
  have hp' : tmps[p]?.getD undef = .pointer (some ⟨g, 0, none⟩) := by simpa using hp
  simp [results, h, hp', asAddr, run_loadVar_row w g t ty cs fr d hg hu hd hi]
end
theorem own_le {w : World} {base n m c size : Nat} {e : TypeId} {A : Option Addr} {xs : List Value} (h : w.ownsRow base e size (.slice A m c) n xs) : m ≤ c := by
  rcases h.2 with ⟨he, _⟩ | ⟨g, cap, cur, he, _, _, hnc, _⟩
  · injection he with _ h2 h3
    omega
  · injection he with _ h2 h3
    omega
def OwnRow {α : Type} (R : α → List Value → Prop) (e : TypeId) (size : Nat) (w : World) (base : Nat) (v : Value) (ps : List α) : Prop :=
  ∃ inner, w.ownsRow base e size v ps.length inner ∧ Reps R size ps inner
section
variable {α : Type} {R R' : α → List Value → Prop} {e : TypeId} {size : Nat} {w w1 : World} {base : Nat} {v : Value} {ps : List α}
theorem OwnRow.imp_ (h : OwnRow R e size w base v ps) (hR : ∀ p c, R p c → R' p c) : OwnRow R' e size w base v ps := by
  obtain ⟨inner, ho, hr⟩ := h
  exact ⟨inner, ho, hr.imp_ hR⟩
theorem OwnRow.below (h : OwnRow R e size w base v ps) (hb : Below w.heap.size w w1) : OwnRow R e size w1 base v ps := by
  obtain ⟨inner, ho, hr⟩ := h
  exact ⟨inner, pw_own_below ho hb, hr⟩
theorem OwnRow.keep (h : OwnRow R e size w base v ps) {g : Nat} {t : TypeId} {cells : Array Value} (hb : w.heap[g]? = some (.cells cells t (0, 0))) (ht : e ≠ t) (hk : KeepBut w w1 g none) : OwnRow R e size w1 base v ps := by
  obtain ⟨inner, ho, hr⟩ := h
  exact ⟨inner, hk.own ho (Ne.symm (own_ne ho hb ht)) (by cases v.ownBlock <;> simp), hr⟩
theorem OwnRow.reads (h : OwnRow R e size w base v ps) : ∃ A c, v = .slice A ps.length c ∧ ps.length ≤ c ∧ ReadsRow R size w A ps.length ps := by
  obtain ⟨inner, ho, hr⟩ := h
  obtain ⟨A, c, rfl, hrow⟩ := own_reads_row ho hr rfl
  exact ⟨A, c, rfl, own_le ho, hrow⟩
end
section
variable {P : Program} {ops : Array Oper} {rest : List Oper} {o : Oper} {a : Act} {Q : Exit → Act → World → Prop} {α : Type} {R : α → List Value → Prop}
end
section
variable {P : Program} {ops : Array Oper} {o : Oper} {a : Act} {Q : Exit → Act → World → Prop} {K : Act → World → Prop} {α : Type} {R : α → List Value → Prop}
end
section
variable {α : Type} {P : Program}
end

section
variable {P : Program} {ops : Array Oper} {rest : List Oper} {o : Oper} {a : Act} {Q : Exit → Act → World → Prop}
end
/-- ok: which blocks the rows inside may be ('not the row that is being written'). -/
structure Kd (α : Type) where
  sz : Nat
  E : List Nat
  K : World → α → List Value → Prop
  M : World → Nat → (Nat → Prop) → α → List Value → Prop
  K_len : ∀ {w x cs}, K w x cs → cs.length = sz
  K_one : ∀ {w x cs}, K w x cs → ∀ u ∈ cs, u.oneCell' = true
  K_below : ∀ {w w1 : World} {x cs}, Below w.heap.size w w1 → K w x cs → K w1 x cs
  K_of_M : ∀ {w base ok x cs}, M w base ok x cs → K w x cs
  M_mono : ∀ {w base ok ok' x cs}, (∀ k, ok k → ok' k) → M w base ok x cs → M w base ok' x cs
  M_bound : ∀ {w : World} {base ok x cs}, M w base ok x cs → M w base (fun k => ok k ∧ base ≤ k ∧ k < w.heap.size ∧ ∃ q, q ∈ E ∧ ∃ cells, w.heap[k]? = some (.cells cells q (0, 0))) x cs
  M_move : ∀ {w w1 : World} {base ok x cs}, (∀ k, ok k → w1.heap[k]? = w.heap[k]?) → M w base ok x cs → M w1 base ok x cs
  M_lower : ∀ {w base base' ok x cs}, base' ≤ base → M w base ok x cs → M w base' ok x cs

theorem own_move {w w1 : World} {base : Nat} {e : TypeId} {size n : Nat} {v : Value} {xs : List Value} (h : w.ownsRow base e size v n xs) (hm : ∀ k, v.ownBlock = some k → w1.heap[k]? = w.heap[k]?) : w1.ownsRow base e size v n xs := by
  obtain ⟨h1, h2⟩ := h
  refine ⟨h1, ?_⟩
  rcases h2 with h2 | ⟨g, cap, cur, rfl, hg, hh, r⟩
  · exact .inl h2
  · exact .inr ⟨g, cap, cur, rfl, hg, (hm g (by simp [Value.ownBlock])).trans hh, r⟩
theorem own_typed {w : World} {base : Nat} {e : TypeId} {size n : Nat} {v : Value} {xs : List Value} (h : w.ownsRow base e size v n xs) (k : Nat) (hk : v.ownBlock = some k) : ∃ cells, w.heap[k]? = some (.cells cells e (0, 0)) := by
  rcases h.2 with ⟨rfl, _⟩ | ⟨g, cap, cur, rfl, hg, hh, r⟩
  · simp [Value.ownBlock] at hk
  · have : g = k := by simpa [Value.ownBlock] using hk
    subst this
    exact ⟨cur, hh⟩

namespace Kd
/-- A row of elements that is read. -/
def C {α : Type} (d : Kd α) (w : World) (A : Option Addr) (n : Nat) (xs : List α) : Prop := ReadsRow (d.K w) d.sz w A n xs
/-- A row of elements (type e) of the call's own; the elements' rows are not this one. -/
def R {α : Type} (d : Kd α) (e : Nat) (w : World) (base : Nat) (ok : Nat → Prop) (v : Value) (xs : List α) : Prop :=
  (∀ k, v.ownBlock = some k → ok k) ∧ OwnRow (d.M w base (fun k => ok k ∧ some k ≠ v.ownBlock)) e d.sz w base v xs
section
variable {α : Type} {d : Kd α} {e : Nat} {w w1 : World} {base : Nat} {ok ok' : Nat → Prop} {v : Value} {xs : List α}
theorem C_below {A : Option Addr} {n : Nat} (h : d.C w A n xs) (hb : Below w.heap.size w w1) : d.C w1 A n xs := ReadsRow.imp_ h hb (fun _ _ hp => d.K_below hb hp)
theorem R_mono (h : d.R e w base ok v xs) (hok : ∀ k, ok k → ok' k) : d.R e w base ok' v xs := ⟨fun k hk => hok k (h.1 k hk), h.2.imp_ (fun _ _ hp => d.M_mono (fun k hk => ⟨hok k hk.1, hk.2⟩) hp)⟩
theorem R_bound (h : d.R e w base ok v xs) : d.R e w base (fun k => ok k ∧ base ≤ k ∧ k < w.heap.size ∧ ∃ q, q ∈ e :: d.E ∧ ∃ cells, w.heap[k]? = some (.cells cells q (0, 0))) v xs := by
  obtain ⟨h0, inner, ho, hr⟩ := h
  refine ⟨fun k hk => ?_, inner, ho, hr.imp_ (fun _ _ hp => d.M_mono (fun k hk => ?_) (d.M_bound hp))⟩
  · obtain ⟨cells, hc⟩ := own_typed ho k hk
    exact ⟨h0 k hk, own_base ho k hk, own_lt ho k hk, e, List.mem_cons_self, cells, hc⟩
  · obtain ⟨⟨h1, h2⟩, h3, h4, q, hq, hc⟩ := hk
    exact ⟨⟨h1, h3, h4, q, List.mem_cons_of_mem _ hq, hc⟩, h2⟩
theorem R_move (h : d.R e w base ok v xs) (hm : ∀ k, ok k → w1.heap[k]? = w.heap[k]?) : d.R e w1 base ok v xs := by
  obtain ⟨h0, inner, ho, hr⟩ := h
  exact ⟨h0, inner, own_move ho (fun k hk => hm k (h0 k hk)), hr.imp_ (fun _ _ hp => d.M_move (fun k hk => hm k hk.1) hp)⟩
theorem R_lower {base' : Nat} (h : d.R e w base ok v xs) (hb : base' ≤ base) : d.R e w base' ok v xs := by
  obtain ⟨h0, inner, ho, hr⟩ := h
  exact ⟨h0, inner, own_weaken ho hb, hr.imp_ (fun _ _ hp => d.M_lower hb hp)⟩
theorem R_reads (h : d.R e w base ok v xs) : ∃ A c, v = .slice A xs.length c ∧ xs.length ≤ c ∧ d.C w A xs.length xs := by
  obtain ⟨A, c, he, hl, hr⟩ := OwnRow.reads h.2
  exact ⟨A, c, he, hl, hr.imp_ (Below.refl _ _) (fun _ _ hp => d.K_of_M hp)⟩
end

def scalar {α : Type} (enc : α → Value) (h1 : ∀ x, (enc x).oneCell' = true) : Kd α where
  sz := 1
  E := []
  K := fun _ x cs => cs = [enc x]
  M := fun _ _ _ x cs => cs = [enc x]
  K_len := fun h => by rw [h]; rfl
  K_one := fun h u hu => by
    rw [h] at hu
    rw [List.mem_singleton.1 hu]
    exact h1 _
  K_below := fun _ h => h
  K_of_M := fun h => h
  M_mono := fun _ h => h
  M_bound := fun h => h
  M_move := fun _ h => h
  M_lower := fun _ h => h
def int (k : IntKind) : Kd Int := scalar (Value.int k) (fun _ => rfl)
def bool : Kd Bool := scalar Value.bool (fun _ => rfl)
def string : Kd ByteArray := scalar Value.string (fun _ => rfl)
def slice {α : Type} (e : Nat) (d : Kd α) : Kd (List α) where
  sz := 1
  E := e :: d.E
  K := fun w xs cs => ∃ A c, cs = [.slice A xs.length c] ∧ xs.length ≤ c ∧ d.C w A xs.length xs
  M := fun w base ok xs cs => ∃ v, cs = [v] ∧ d.R e w base ok v xs
  K_len := by
    rintro w x cs ⟨A, c, rfl, _⟩
    rfl
  K_one := by
    rintro w x cs ⟨A, c, rfl, _⟩ u hu
    rw [List.mem_singleton.1 hu]
    rfl
  K_below := by
    rintro w w1 x cs hb ⟨A, c, rfl, hl, hr⟩
    exact ⟨A, c, rfl, hl, C_below hr hb⟩
  K_of_M := by
    rintro w base ok x cs ⟨v, rfl, h⟩
    obtain ⟨A, c, rfl, hl, hr⟩ := R_reads h
    exact ⟨A, c, rfl, hl, hr⟩
  M_mono := by
    rintro w base ok ok' x cs hok ⟨v, rfl, h⟩
    exact ⟨v, rfl, R_mono h hok⟩
  M_bound := by
    rintro w base ok x cs ⟨v, rfl, h⟩
    exact ⟨v, rfl, R_bound h⟩
  M_move := by
    rintro w w1 base ok x cs hm ⟨v, rfl, h⟩
    exact ⟨v, rfl, R_move h hm⟩
  M_lower := by
    rintro w base base' ok x cs hb ⟨v, rfl, h⟩
    exact ⟨v, rfl, R_lower h hb⟩
/-- Two in line. -/
def pair {α β : Type} (a : Kd α) (b : Kd β) : Kd (α × β) where
  sz := a.sz + b.sz
  E := a.E ++ b.E
  K := fun w x cs => ∃ c0 c1, cs = c0 ++ c1 ∧ a.K w x.1 c0 ∧ b.K w x.2 c1
  M := fun w base ok x cs => ∃ c0 c1, cs = c0 ++ c1 ∧ a.M w base ok x.1 c0 ∧ b.M w base ok x.2 c1
  K_len := by
    rintro w x cs ⟨c0, c1, rfl, h0, h1⟩
    rw [List.length_append, a.K_len h0, b.K_len h1]
  K_one := by
    rintro w x cs ⟨c0, c1, rfl, h0, h1⟩ u hu
    rcases List.mem_append.1 hu with hu | hu
    · exact a.K_one h0 u hu
    · exact b.K_one h1 u hu
  K_below := by
    rintro w w1 x cs hb ⟨c0, c1, rfl, h0, h1⟩
    exact ⟨c0, c1, rfl, a.K_below hb h0, b.K_below hb h1⟩
  K_of_M := by
    rintro w base ok x cs ⟨c0, c1, rfl, h0, h1⟩
    exact ⟨c0, c1, rfl, a.K_of_M h0, b.K_of_M h1⟩
  M_mono := by
    rintro w base ok ok' x cs hok ⟨c0, c1, rfl, h0, h1⟩
    exact ⟨c0, c1, rfl, a.M_mono hok h0, b.M_mono hok h1⟩
  M_bound := by
    rintro w base ok x cs ⟨c0, c1, rfl, h0, h1⟩
    refine ⟨c0, c1, rfl, a.M_mono ?_ (a.M_bound h0), b.M_mono ?_ (b.M_bound h1)⟩
    · rintro k ⟨h2, h3, h4, q, hq, hc⟩
      exact ⟨h2, h3, h4, q, List.mem_append_left _ hq, hc⟩
    · rintro k ⟨h2, h3, h4, q, hq, hc⟩
      exact ⟨h2, h3, h4, q, List.mem_append_right _ hq, hc⟩
  M_move := by
    rintro w w1 base ok x cs hm ⟨c0, c1, rfl, h0, h1⟩
    exact ⟨c0, c1, rfl, a.M_move hm h0, b.M_move hm h1⟩
  M_lower := by
    rintro w base base' ok x cs hb ⟨c0, c1, rfl, h0, h1⟩
    exact ⟨c0, c1, rfl, a.M_lower hb h0, b.M_lower hb h1⟩
/-- A Lean structure by its fields. -/
def iso {α β : Type} (d : Kd α) (f : β → α) : Kd β where
  sz := d.sz
  E := d.E
  K := fun w x cs => d.K w (f x) cs
  M := fun w base ok x cs => d.M w base ok (f x) cs
  K_len := d.K_len
  K_one := d.K_one
  K_below := d.K_below
  K_of_M := d.K_of_M
  M_mono := d.M_mono
  M_bound := d.M_bound
  M_move := d.M_move
  M_lower := d.M_lower
/-- Nothing is of this kind: where the nesting's depth is used up. -/
def bot {α : Type} (sz : Nat) (E : List Nat) : Kd α where
  sz := sz
  E := E
  K := fun _ _ _ => False
  M := fun _ _ _ _ _ => False
  K_len := fun h => h.elim
  K_one := fun h => h.elim
  K_below := fun _ h => h
  K_of_M := fun h => h
  M_mono := fun _ h => h
  M_bound := fun h => h
  M_move := fun _ h => h
  M_lower := fun _ h => h
/-- A type nested in itself: nested at most n deep .. -/
def upto {α : Type} (F : Kd α → Kd α) (sz : Nat) (E : List Nat) : Nat → Kd α
  | 0 => bot sz E
  | n + 1 => F (upto F sz E n)
theorem C_get {α : Type} {d : Kd α} {w : World} {A : Option Addr} {n : Nat} {xs : List α} (h : d.C w A n xs) (z : α) (i : Int) (h0 : 0 ≤ i) (h1 : i < n) :
    ∃ ad c, A = some ad ∧ c.length = d.sz ∧ d.K w (xs.getD i.toNat z) c ∧ ∀ j u, c[j]? = some u → w.cell? (ad.add (i.toNat * d.sz + j)) = some u := ReadsRow.get_ h z i h0 h1
section
variable {P : Program} {ops : Array Oper} {rest : List Oper} {o : Oper} {a : Act} {Q : Exit → Act → World → Prop} {α : Type}
end
section
variable {P : Program} {ops : Array Oper} {o : Oper} {a : Act} {Q : Exit → Act → World → Prop} {Kc : Act → World → Prop} {α : Type}
end
end Kd
namespace Kd
/-- F says the more, the more its argument says. -/
structure Mono {α β : Type} (F : Kd α → Kd β) : Prop where
  sz : ∀ d d' : Kd α, d.sz = d'.sz → (F d).sz = (F d').sz
  K : ∀ d d' : Kd α, d.sz = d'.sz → (∀ w x cs, d.K w x cs → d'.K w x cs) → ∀ w x cs, (F d).K w x cs → (F d').K w x cs
  M : ∀ d d' : Kd α, d.sz = d'.sz → (∀ w base ok x cs, d.M w base ok x cs → d'.M w base ok x cs) → ∀ w base ok x cs, (F d).M w base ok x cs → (F d').M w base ok x cs
section
variable {α : Type} {F : Kd α → Kd α} {sz : Nat} {E : List Nat} {hs : ∀ n, (upto F sz E n).sz = sz} {hE : ∀ n q, q ∈ (upto F sz E n).E → q ∈ E}
end
end Kd
namespace Kd
end Kd
namespace Kd
section
variable {α β : Type} {d : Kd α} {d' : Kd β} {e e' : Nat} {w w1 W : World} {base b b' : Nat} {ok ok' okv oku : Nat → Prop} {v u : Value} {xs : List α} {ys : List β}
theorem C_alloc {A : Option Addr} {n : Nat} (h : d.C w A n xs) (o : Obj) : d.C (w.alloc o) A n xs := C_below h (below_alloc (Below.refl _ _) o)
theorem C_drew {A : Option Addr} {n : Nat} (h : d.C w A n xs) : d.C w.drew A n xs := C_below h (below_drew (Below.refl _ _))
theorem C_drewN {A : Option Addr} {n : Nat} (h : d.C w A n xs) (m : Nat) : d.C (w.drewN m) A n xs := C_below h (pw_below_drewN (Below.refl _ _) m)
theorem C_nil (d : Kd α) (w : World) : d.C w none ([] : List α).length [] := ⟨rfl, by simp, fun h => absurd h (Nat.lt_irrefl 0)⟩
end
section
variable {w W : World} {A : Option Addr} {n : Nat}
variable {α : Type} {enc : α → Value} {h1 : ∀ x, (enc x).oneCell' = true} {e base g cap : Nat} {ok : Nat → Prop} {xs : List α}
end

section
variable {P : Program} {ops : Array Oper} {rest : List Oper} {o : Oper} {a : Act} {Q : Exit → Act → World → Prop}
theorem event_run {W w1 : World} {v : Value} (hgd : o.guard = none) (hrun : (execOp a.eval o).run P W = .ok (.value v) w1) (h : wpList P ops Q rest (a.put o.dst v) w1) : wpList P ops Q (o :: rest) a W := by
  refine wpList_plain hgd fun K hK => ?_
  unfold Oper.wp
  rw [hrun]
  exact hK _ _ h
variable {α : Type}
end
end Kd
theorem own_take {w : World} {base n m c size : Nat} {e : TypeId} {A : Option Addr} {xs : List Value} (h : w.ownsRow base e size (.slice A n c) n xs) (hm : m ≤ n) : w.ownsRow base e size (.slice A m c) m (xs.take (m * size)) := by
  obtain ⟨h1, h2⟩ := h
  refine ⟨by rw [List.length_take, h1]; exact Nat.min_eq_left (Nat.mul_le_mul_right _ hm), ?_⟩
  rcases h2 with ⟨he, h0⟩ | ⟨g, cap, cur, he, hb, hh, hnc, hcm, hcs, ht⟩
  · injection he with ha _ hc
    subst ha; subst hc
    exact .inl ⟨by rw [show m = 0 by omega], by omega⟩
  · injection he with ha _ hc
    subst ha; subst hc
    refine .inr ⟨g, c, cur, rfl, hb, hh, by omega, hcm, hcs, ?_⟩
    rw [← ht, List.take_take, Nat.min_eq_left (Nat.mul_le_mul_right _ hm)]
section
variable {P : Program}
theorem cut_to (t e : TypeId) (kh : IntKind) {i : TypeInfo} (ht : P.underlying t = some (.slice e)) (hi : P.info? e = some i) (A : Option Addr) (n c : Nat) (j : Int) (h0 : 0 ≤ j) (hm : j ≤ n) (hc : n ≤ c) :
    ∀ W : World, (Instr.slice t (.slice A n c) none (some (.int kh j)) none).run P W = .ok (.slice A j.toNat c) W := by
  intro W
  have hel : P.elem t = e := by simp [Program.elem, ht]
  have hu : P.underlying t = some (.slice (P.elem t)) := by rw [hel]; exact ht
  have ha : (A.map fun x => x.add 0) = A := by cases A <;> simp [Addr.add]
  rw [run_slice_h W t A n c hu kh j h0 (by omega), hel]
  simp [sizeOf, typeInfo, hi, sliced, Result.andThen, ha]
end
/-- A row of one's own that may begin inside its block. -/
def QRow (w : World) (base : Nat) (e : TypeId) (size : Nat) (v : Value) (n : Nat) (xs : List Value) : Prop :=
  xs.length = n * size ∧
  ((n = 0 ∧ ∃ A, v = .slice A 0 0 ∧ ∀ a, A = some a → base ≤ a.block ∧ ∃ cur, w.heap[a.block]? = some (.cells cur e (0, 0))) ∨
   ∃ g off cap cur, v = .slice (some ⟨g, off * size, none⟩) n cap ∧ base ≤ g ∧ w.heap[g]? = some (.cells cur e (0, 0)) ∧ n ≤ cap ∧ off + cap ≤ maxLen ∧ cur.size = (off + cap) * size ∧ (cur.toList.drop (off * size)).take (n * size) = xs)
section
variable {w w1 : World} {base n size : Nat} {e : TypeId} {v : Value} {xs : List Value}
theorem q_typed (h : QRow w base e size v n xs) (k : Nat) (hk : v.ownBlock = some k) : base ≤ k ∧ ∃ cells, w.heap[k]? = some (.cells cells e (0, 0)) := by
  rcases h.2 with ⟨_, A, rfl, hA⟩ | ⟨g, off, cap, cur, rfl, hg, hh, r⟩
  · cases A with
    | none => simp [Value.ownBlock] at hk
    | some a =>
      have : a.block = k := by simpa [Value.ownBlock] using hk
      subst this
      exact hA a rfl
  · have : g = k := by simpa [Value.ownBlock] using hk
    subst this
    exact ⟨hg, cur, hh⟩
theorem q_slice (h : QRow w base e size v n xs) : ∃ A c, v = .slice A n c ∧ n ≤ c := by
  rcases h.2 with ⟨h0, A, rfl, _⟩ | ⟨g, off, cap, cur, rfl, hg, hh, hnc, r⟩
  · exact ⟨A, 0, by rw [h0], by omega⟩
  · exact ⟨_, cap, rfl, hnc⟩
theorem q_max (h : QRow w base e size v n xs) : n ≤ 9223372036854775807 := by
  rcases h.2 with ⟨h0, _⟩ | ⟨g, off, cap, cur, rfl, hg, hh, hnc, hm, r⟩
  · omega
  · simp only [maxLen] at hm
    omega
theorem add_at (g o j : Nat) : (⟨g, o, none⟩ : Addr).add j = ⟨g, o + j, none⟩ := by unfold Addr.add; split <;> simp_all
theorem q_cells {A : Option Addr} {c : Nat} (h : QRow w base e size (.slice A n c) n xs) (hn : 0 < n) : ∃ ad, A = some ad ∧ ∀ j u, xs[j]? = some u → w.cell? (ad.add j) = some u := by
  rcases h.2 with ⟨h0, _⟩ | ⟨g, off, cap, cur, he, hg, hh, hnc, hm, hcs, ht⟩
  · omega
  · injection he with ha _ hc
    subst ha
    refine ⟨_, rfl, fun j u hu => ?_⟩
    rw [add_at, cell_of_row w g _ cur e (0, 0) hh]
    rw [← ht, List.getElem?_take] at hu
    split at hu
    · rw [List.getElem?_drop] at hu
      rw [← Array.getElem?_toList]
      exact hu
    · cases hu
/-- What a run of cells written leaves. -/
theorem setCells_far {g : Nat} : ∀ (vs : List Value) (o : Nat) {w : World} (k : Nat), k ≠ g → (w.setCells g o vs).heap[k]? = w.heap[k]?
  | [], _, _, _, _ => rfl
  | v :: r, o, w, k, hk => by
    rw [World.setCells, setCells_far r (o + 1) k hk]
    exact Below.heap_setCell w ⟨g, o, none⟩ v k hk
theorem setCells_same (g : Nat) : ∀ (vs : List Value) (o : Nat) (w : World), (w.setCells g o vs).os = w.os ∧ (w.setCells g o vs).tape = w.tape ∧ (w.setCells g o vs).output = w.output ∧ (w.setCells g o vs).heap.size = w.heap.size
  | [], _, _ => ⟨rfl, rfl, rfl, rfl⟩
  | v :: r, o, w => by
    obtain ⟨h1, h2, h3, h4⟩ := setCells_same g r (o + 1) (w.setCell ⟨g, o, none⟩ v)
    rw [World.setCells]
    exact ⟨h1, h2, h3, by rw [h4]; simp [World.setCell]⟩
theorem setCells_row {g : Nat} {e : TypeId} : ∀ (vs : List Value) (o : Nat) (w : World) (cur : Array Value), w.heap[g]? = some (.cells cur e (0, 0)) → o + vs.length ≤ cur.size →
    ∃ cur', (w.setCells g o vs).heap[g]? = some (.cells cur' e (0, 0)) ∧ cur'.size = cur.size ∧ cur'.toList = cur.toList.take o ++ vs ++ cur.toList.drop (o + vs.length)
  | [], o, w, cur, h, _ => ⟨cur, h, rfl, by simp⟩
  | v :: r, o, w, cur, h, hl => by
    have h2 := blk_set h o v
    simp only [List.length_cons] at hl
    obtain ⟨cur', h3, h4, h5⟩ := setCells_row r (o + 1) (w.setCell ⟨g, o, none⟩ v) _ h2 (by simp; omega)
    refine ⟨cur', h3, by rw [h4]; simp, ?_⟩
    rw [h5, Array.toList_setIfInBounds]
    have ho : o < cur.toList.length := by rw [Array.length_toList]; omega
    rw [List.take_set, List.drop_set_of_lt (by omega)]
    simp only [List.length_cons]
    rw [show o + 1 + r.length = o + (r.length + 1) by omega]
    congr 1
    rw [List.take_succ_eq_append_getElem ho, List.set_append_right _ _ (by rw [List.length_take]; omega)]
    have ho' : o < cur.size := by omega
    simp [Nat.min_eq_left (Nat.le_of_lt ho')]
end
section
variable {P : Program}
end
namespace Kd
theorem reps_take {α : Type} {R : α → List Value → Prop} {size m : Nat} {ps : List α} {cs : List Value} (h : Reps R size ps cs) (hm : m ≤ ps.length) : Reps R size (ps.take m) (cs.take (m * size)) := by
  refine ⟨by rw [List.length_take, List.length_take, h.1, Nat.min_eq_left hm, Nat.min_eq_left (Nat.mul_le_mul_right _ hm)], fun j p hj => ?_⟩
  rw [List.getElem?_take] at hj
  split at hj
  · rename_i hjm
    have := h.2 j p hj
    have hle : j * size + size ≤ m * size := by rw [← Nat.succ_mul]; exact Nat.mul_le_mul_right _ hjm
    rw [List.drop_take, List.take_take, Nat.min_eq_left (by omega)]
    exact this
  · cases hj
theorem R_take {α : Type} {d : Kd α} {e m n c : Nat} {w : World} {base : Nat} {ok : Nat → Prop} {A : Option Addr} {xs : List α} (h : d.R e w base ok (.slice A n c) xs) (hm : m ≤ xs.length) : d.R e w base ok (.slice A m c) (xs.take m) := by
  obtain ⟨h0, inner, ho, hr⟩ := h
  have hn : n = xs.length := by
    obtain ⟨A', c', he⟩ := own_slice ho
    injection he
  subst hn
  have hb : ∀ x y : Nat, (Value.slice A x c).ownBlock = (Value.slice A y c).ownBlock := by
    intro x y
    cases A <;> rfl
  refine ⟨fun k hk => h0 k (by rw [hb _ m]; exact hk), inner.take (m * d.sz), ?_, ?_⟩
  · rw [List.length_take, Nat.min_eq_left hm]
    exact own_take ho hm
  · rw [hb m xs.length]
    exact reps_take hr hm
def Q {α : Type} (d : Kd α) (e : Nat) (w : World) (base : Nat) (ok : Nat → Prop) (v : Value) (xs : List α) : Prop :=
  (∀ k, v.ownBlock = some k → ok k) ∧ ∃ inner, QRow w base e d.sz v xs.length inner ∧ Reps (d.M w base (fun k => ok k ∧ some k ≠ v.ownBlock)) d.sz xs inner
section
variable {α : Type} {d : Kd α} {e : Nat} {w w1 W : World} {base : Nat} {ok ok' : Nat → Prop} {v : Value} {xs : List α}
theorem Q_reads' {A : Option Addr} {n c : Nat} (h : d.Q e w base ok (.slice A n c) xs) : n = xs.length ∧ n ≤ c ∧ d.C w A xs.length xs := by
  obtain ⟨_, inner, ho, hr⟩ := h
  obtain ⟨A', c', he, hl⟩ := q_slice ho
  injection he with h1 h2 h3
  subst h1; subst h2; subst h3
  refine ⟨rfl, hl, rfl, q_max ho, fun hp => ?_⟩
  obtain ⟨ad, ha, hc⟩ := q_cells ho hp
  refine ⟨ad, ha, fun j p hj => ⟨(inner.drop (j * d.sz)).take d.sz, ?_, d.K_of_M (hr.2 j p hj), fun i u hu => ?_⟩⟩
  · have hjl := (List.getElem?_eq_some_iff.1 hj).1
    have h1 : j * d.sz + d.sz ≤ inner.length := by rw [hr.1, ← Nat.succ_mul]; exact Nat.mul_le_mul_right _ hjl
    rw [List.length_take, List.length_drop]
    omega
  · refine hc _ u ?_
    rw [List.getElem?_take] at hu
    split at hu
    · rw [List.getElem?_drop] at hu
      exact hu
    · cases hu
end
section
variable {P : Program} {ops : Array Oper} {rest : List Oper} {o : Oper} {a : Act} {Q' : Exit → Act → World → Prop} {Kc : Act → World → Prop} {α : Type}
end
end Kd
namespace Kd
section
variable {α : Type} {d : Kd α} {e e' : Nat} {w w1 W : World} {base : Nat} {ok : Nat → Prop} {u v : Value} {xs : List α}
end
end Kd
theorem seg_get {α : Type} (a seg : List α) (o : Nat) (h : o + seg.length ≤ a.length) (q : Nat) :
    (a.take o ++ seg ++ a.drop (o + seg.length))[q]? = if q < o then a[q]? else if q < o + seg.length then seg[q - o]? else a[q]? := by
  have hl : (a.take o).length = o := by rw [List.length_take]; omega
  rw [List.append_assoc]
  by_cases h1 : q < o
  · rw [if_pos h1, List.getElem?_append_left (by omega), List.getElem?_take, if_pos h1]
  · rw [if_neg h1, List.getElem?_append_right (by omega), hl]
    by_cases h2 : q < o + seg.length
    · rw [if_pos h2, List.getElem?_append_left (by omega)]
    · rw [if_neg h2, List.getElem?_append_right (by omega), List.getElem?_drop]
      congr 1
      omega
namespace Kd
section
variable {α : Type} {d : Kd α} {e base g n cap : Nat} {ok okp : Nat → Prop} {W : World} {xs : List α}
end
end Kd
namespace Kd
def fixed {α : Type} (d : Kd α) (w0 : World) : Kd α where
  sz := d.sz
  E := []
  K := fun _ x cs => d.K w0 x cs
  M := fun _ _ _ x cs => d.K w0 x cs
  K_len := d.K_len
  K_one := d.K_one
  K_below := fun _ h => h
  K_of_M := fun h => h
  M_mono := fun _ h => h
  M_bound := fun h => h
  M_move := fun _ h => h
  M_lower := fun _ h => h
def or_ {α : Type} (a b : Kd α) (h : b.sz = a.sz) : Kd α where
  sz := a.sz
  E := a.E ++ b.E
  K := fun w x cs => a.K w x cs ∨ b.K w x cs
  M := fun w base ok x cs => a.M w base ok x cs ∨ b.M w base ok x cs
  K_len := fun hk => hk.elim a.K_len (fun hk => (b.K_len hk).trans h)
  K_one := fun hk => hk.elim a.K_one b.K_one
  K_below := fun hb hk => hk.imp (a.K_below hb) (b.K_below hb)
  K_of_M := fun hk => hk.imp a.K_of_M b.K_of_M
  M_mono := fun hok hk => hk.imp (a.M_mono hok) (b.M_mono hok)
  M_bound := fun hk => hk.imp
    (fun hk => a.M_mono (fun _ ⟨h1, h2, h3, q, hq, hc⟩ => ⟨h1, h2, h3, q, List.mem_append_left _ hq, hc⟩) (a.M_bound hk))
    (fun hk => b.M_mono (fun _ ⟨h1, h2, h3, q, hq, hc⟩ => ⟨h1, h2, h3, q, List.mem_append_right _ hq, hc⟩) (b.M_bound hk))
  M_move := fun hm hk => hk.imp (a.M_move hm) (b.M_move hm)
  M_lower := fun hb hk => hk.imp (a.M_lower hb) (b.M_lower hb)
section
variable {α : Type} {F : Kd α → Kd α} {sz : Nat} {E : List Nat} {hs : ∀ n, (upto F sz E n).sz = sz} {hE : ∀ n q, q ∈ (upto F sz E n).E → q ∈ E}
end
end Kd
namespace Kd
section
variable {P : Program} {ops : Array Oper} {rest : List Oper} {o : Oper} {a : Act} {Q : Exit → Act → World → Prop} {α : Type}
end
end Kd
namespace Kd
section
variable {P : Program} {ops : Array Oper} {rest : List Oper} {o : Oper} {a : Act} {Q : Exit → Act → World → Prop} {α : Type}
end
end Kd
theorem add_add (a : Addr) (i j : Nat) : (a.add i).add j = a.add (i + j) := by
  unfold Addr.add
  by_cases h1 : i = 0 <;> by_cases h2 : j = 0 <;> simp [h1, h2, Nat.add_assoc]
namespace Kd
section
variable {α : Type} {k : Kd α} {w : World} {A : Option Addr} {xs : List α} {m c : Nat}
theorem C_take (h : k.C w A xs.length xs) (hm : m ≤ xs.length) : k.C w A (xs.take m).length (xs.take m) := by
  have hl : (xs.take m).length = m := by rw [List.length_take]; omega
  refine ⟨rfl, by rw [hl]; have := h.2.1; omega, fun hp => ?_⟩
  obtain ⟨ad, e, hc⟩ := h.2.2 (by omega)
  refine ⟨ad, e, fun j p hj => hc j p ?_⟩
  rw [List.getElem?_take] at hj
  split at hj
  · exact hj
  · cases hj
end
end Kd
section
variable {P : Program}
end
theorem below_size {w W : World} (h : Below w.heap.size w W) : w.heap.size ≤ W.heap.size := h.size
theorem below_step {w W w2 : World} (h : Below w.heap.size w W) (k : Below W.heap.size W w2) : Below w.heap.size w w2 := below_then h h.size k
theorem ReadsInt.nil (W : World) (k : IntKind) : ReadsInt W k none ([] : List Int).length [] := ⟨rfl, by simp, fun h => absurd h (Nat.lt_irrefl 0)⟩
theorem ReadsInt.drewN {W : World} {k : IntKind} {A : Option Addr} {n : Nat} {xs : List Int} (h : ReadsInt W k A n xs) (m : Nat) : ReadsInt (W.drewN m) k A n xs := h
theorem below_set {w W : World} {g j : Nat} {v : Value} (h : Below w.heap.size w W) (hg : w.heap.size ≤ g) : Below w.heap.size w (W.setCell ⟨g, j, none⟩ v) := h.setCell hg _
theorem keep_cell {w W : World} {g : Nat} (h : KeepBut w W g none) {a : Addr} {v : Value} (hc : w.cell? a = some v) (hne : a.block ≠ g) : W.cell? a = some v := by
  have := h.2 a.block (World.block_lt_of_cell? w a hc) hne (by simp)
  simpa [World.cell?, this] using hc
theorem add_block (a : Addr) (i : Nat) : (a.add i).block = a.block := by unfold Addr.add; split <;> rfl
theorem ReadsOf.nil {α : Type} (enc : α → Value) (d : α) (W : World) : ReadsOf enc d W none ([] : List α).length [] := ⟨rfl, by simp, fun h => absurd h (Nat.lt_irrefl 0)⟩
theorem ReadsOf.drewN {α : Type} {enc : α → Value} {d : α} {W : World} {A : Option Addr} {n : Nat} {xs : List α} (h : ReadsOf enc d W A n xs) (m : Nat) : ReadsOf enc d (W.drewN m) A n xs := h
theorem ReadsInt.keep {w W : World} {k : IntKind} {A : Option Addr} {n g : Nat} {xs : List Int} (h : ReadsInt w k A n xs) (hk : KeepBut w W g none) (hf : ∀ ad, A = some ad → 0 < n → ad.block ≠ g) : ReadsInt W k A n xs :=
  ⟨h.1, h.2.1, fun hn => by
    obtain ⟨ad, e, hc⟩ := h.2.2 hn
    exact ⟨ad, e, fun j hj => keep_cell hk (hc j hj) (by rw [add_block]; exact hf ad e hn)⟩⟩
theorem ReadsOf.keep {α : Type} {enc : α → Value} {d : α} {w W : World} {A : Option Addr} {n g : Nat} {xs : List α} (h : ReadsOf enc d w A n xs) (hk : KeepBut w W g none) (hf : ∀ ad, A = some ad → 0 < n → ad.block ≠ g) : ReadsOf enc d W A n xs :=
  ⟨h.1, h.2.1, fun hn => by
    obtain ⟨ad, e, hc⟩ := h.2.2 hn
    exact ⟨ad, e, fun j hj => keep_cell hk (hc j hj) (by rw [add_block]; exact hf ad e hn)⟩⟩
theorem blk_put {w : World} {g : Nat} {t : TypeId} {cs cs' : Array Value} (h : w.heap[g]? = some (.cells cs t (0, 0))) (i : Nat) (u : Value) (e : cs.setIfInBounds i u = cs') : (w.setCell ⟨g, i, none⟩ u).heap[g]? = some (.cells cs' t (0, 0)) := e ▸ blk_set h i u
namespace Kd
section
variable {α β : Type} {d : Kd α} {d' : Kd β} {e e' base base' n : Nat} {ok ok' : Nat → Prop} {w W w1 W1 : World} {v u : Value} {xs : List α} {ys : List β} {A : Option Addr} {c : Nat}
end
section
variable {α : Type} {enc : α → Value} {h1 : ∀ x, (enc x).oneCell' = true} {w W : World} {A : Option Addr} {n g : Nat} {xs : List α}
end
end Kd
namespace Kd
section
variable {α : Type} {d : Kd α} {e base g : Nat} {ok : Nat → Prop} {w w1 : World} {v : Value} {xs : List α} {o : Obj}
end
end Kd
section
variable {P : Program} {ops : Array Oper} {rest : List Oper} {o : Oper} {a : Act} {Q : Exit → Act → World → Prop}
theorem box_event {W : World} (hgd : o.guard = none) {N : Tmp} (_hd : o.dst = some N) {cs : Array Value} {t : TypeId}
    (hrun : (execOp a.eval o).run P W = .ok (.value (.pointer (some ⟨W.heap.size, 0, none⟩))) (W.alloc (.cells cs t (0, 0))))
    (h : ∀ g, g = W.heap.size → ∀ w1, w1.heap[g]? = some (.cells cs t (0, 0)) → Below W.heap.size W w1 → wpList P ops Q rest (a.put o.dst (.pointer (some ⟨g, 0, none⟩))) w1) : wpList P ops Q (o :: rest) a W :=
  Kd.event_run hgd hrun (h _ rfl _ (blk_new W _) (below_alloc (Below.refl _ _) _))
end
namespace Kd
section
variable {α : Type} {enc : α → Value} {h1 : ∀ x, (enc x).oneCell' = true} {e base g n cap : Nat} {ok : Nat → Prop} {W : World} {xs : List α}
end
end Kd
section
variable {P : Program} {ops : Array Oper} {rest : List Oper} {o : Oper} {a : Act} {Q : Exit → Act → World → Prop}
end
namespace Kd
section
variable {α : Type} {enc : α → Value} {h1 : ∀ x, (enc x).oneCell' = true} {e base g n cap : Nat} {ok : Nat → Prop} {W : World} {xs : List α}
end
end Kd
section
variable {P : Program} {ops : Array Oper} {rest : List Oper} {o : Oper} {a : Act} {Q : Exit → Act → World → Prop} {W : World}
theorem gate_dst {N : Tmp} (_hN : o.dst = some N) (h : wpList P ops Q (o :: rest) a W) : wpList P ops Q (o :: rest) a W := h
end
section
variable {P : Program} {ops : Array Oper} {o : Oper} {a : Act} {Q : Exit → Act → World → Prop} {Kc : Act → World → Prop}
namespace Kd
variable {α : Type}
end Kd
end
inductive Vals (P : Program) (tmps : Array Value) (w : World) : List ResultVar → List Value → Prop where
  | nil : Vals P tmps w [] []
  | tmp {u : Tmp} {rs : List ResultVar} {vs : List Value} (h : Vals P tmps w rs vs) : Vals P tmps w (.tmp u :: rs) (tmps.getD u undef :: vs)
  | cell {p : Tmp} {ty : TypeId} {rs : List ResultVar} {vs : List Value} (g : Nat) (t : TypeId) (cs : Array Value) (fr : Nat × Nat) (d : TypeDesc)
      (hp : tmps.getD p undef = .pointer (some ⟨g, 0, none⟩)) (hg : w.heap[g]? = some (.cells cs t fr))
      (hu : P.underlying ty = some d) (hd : (match d with | .struct _ | .array _ _ => true | _ => false) = true) (hi : (P.info? ty).map (·.size) = some cs.size)
      (h : Vals P tmps w rs vs) : Vals P tmps w (.cell p ty :: rs) (.agg cs :: vs)
section
variable {P : Program} {tmps : Array Value} {w : World}
end
namespace Kd
section
variable {P : Program} {α : Type}
end
section
variable {P : Program} {ops : Array Oper} {rest : List Oper} {o : Oper} {a : Act} {Q : Exit → Act → World → Prop} {Kc : Act → World → Prop} {α : Type}
end
end Kd

end Go.Proofs.YtpmieapgbdbabaaDoorW.PrintWords
end

section
/-
  PRINTED WORDS, second file: A REGION THAT DRAWS ITS ORDER, WALKED BY HAND, where its last store writes what its own loads read ('x.f = append(x.f, f(i))'). Plain theorems; no macro, no elab. A claim may hold it (turn the namespace's name).
  A load may be taken first in every world that meets S; behind the operations of ds nothing is shown; sound because each of ds waits for what is taken (Region.lastB). The kernel checks it.
  By an AI agent of Go's test side, Mon Nov 16 2026. No person has read it.
-/
namespace Go.Proofs.YtpmieapgbdbabaaDoorW.PrintLast

section
variable {P : Program} {ops : Array Oper} {Q : Exit → Act → World → Prop} {md : Region.Mode} {S : World → Prop} {ds : List Nat}

/-- Operation d waits for operation i, by a chain of at most 'fuel' edges. -/
def Region.reachB (md : Region.Mode) (ops : Array Oper) (i : Nat) : Nat → Nat → Bool
  | 0, _ => false
  | fuel + 1, d => match ops[d]? with
    | some o => o.after.any fun e => Region.binds md e && (e.on == i || Region.reachB md ops i fuel e.on)
    | none => false

/-- Each of ds that has not come up yet waits for number i. -/
def Region.lastB (md : Region.Mode) (ops : Array Oper) (listed : Array Bool) (ds : List Nat) (i : Nat) : Bool :=
  ds.all fun d => listed.getD d true || Region.reachB md ops i ops.size d

def ListedClosed (md : Region.Mode) (ops : Array Oper) (listed : Array Bool) : Prop :=
  ∀ j oj, ops[j]? = some oj → listed.getD j false = true → ∀ e ∈ oj.after, Region.binds md e = true → listed.getD e.on false = true

theorem ListedClosed.set {listed : Array Bool} {i : Nat} (h : ListedClosed md ops listed) (hi : i ∈ Region.ready md ops listed) : ListedClosed md ops (listed.setIfInBounds i true) := by
  obtain ⟨_, oi, hoi, hall⟩ := mem_ready.1 hi
  intro j oj hj hl e he hb
  by_cases hij : i = j
  · subst hij
    have : oj = oi := Option.some.inj (hj.symm.trans hoi)
    subst this
    exact getD_set_true (hall e he hb)
  · rw [getD_set_ne false hij] at hl
    exact getD_set_true (h j oj hj hl e he hb)

/-- Whatever order is picked from here on, AND 'S' HOLDS BEHIND EVERY OPERATION THAT IS CARRIED OUT, those of ds apart. -/
def wpAnyLast (P : Program) (md : Region.Mode) (ops : Array Oper) (Q : Exit → Act → World → Prop) (S : World → Prop) (ds : List Nat) : Nat → Array Bool → Act → World → Prop
  | 0, listed, a, w => Region.ready md ops listed = [] ∧ Q .normal a w
  | fuel + 1, listed, a, w =>
    (Region.ready md ops listed = [] → Q .normal a w) ∧
    ∀ i ∈ Region.ready md ops listed, wpOp P ops Q i (fun a' w' => (i ∉ ds → S w → S w') ∧ wpAnyLast P md ops Q S ds fuel (listed.setIfInBounds i true) a' w') a w

theorem wpAnyLast_all {rs : List Nat} {fuel : Nat} {listed : Array Bool} {a : Act} {w : World} (hr : Region.ready md ops listed = rs) (hne : rs ≠ [])
    (h : ∀ i ∈ rs, wpOp P ops Q i (fun a' w' => (i ∉ ds → S w → S w') ∧ wpAnyLast P md ops Q S ds fuel (listed.setIfInBounds i true) a' w') a w) : wpAnyLast P md ops Q S ds (fuel + 1) listed a w :=
  ⟨fun h0 => absurd (hr ▸ h0) hne, hr ▸ h⟩

end

section
variable {P : Program} {ops : Array Oper} {Q : Exit → Act → World → Prop} {md : Region.Mode} {S : World → Prop} {ds : List Nat}

def AllReadyL (P : Program) (md : Region.Mode) (ops : Array Oper) (Q : Exit → Act → World → Prop) (S : World → Prop) (ds : List Nat) (fuel : Nat) (listed : Array Bool) (a : Act) (w : World) (rs : List Nat) : Prop :=
  ∀ i ∈ rs, wpOp P ops Q i (fun a' w' => (i ∉ ds → S w → S w') ∧ wpAnyLast P md ops Q S ds fuel (listed.setIfInBounds i true) a' w') a w
theorem AllReadyL.nil {fuel : Nat} {listed : Array Bool} {a : Act} {w : World} : AllReadyL P md ops Q S ds fuel listed a w [] := fun _ h => by cases h
theorem AllReadyL.cons {fuel : Nat} {listed : Array Bool} {a : Act} {w : World} {i : Nat} {o : Oper} {rs : List Nat} (ho : ops[i]? = some o) (hd : i ∉ ds)
    (h : ∀ K' : Act → World → Prop, Shut (∀ a w, S w → (S w → wpAnyLast P md ops Q S ds fuel (listed.setIfInBounds i true) a w) → K' a w) → if Region.wanted o (yielded ops a.tmps) = true then Oper.wp P o a w K' Q else K' (a.put o.dst undef) w)
    (hs : AllReadyL P md ops Q S ds fuel listed a w rs) : AllReadyL P md ops Q S ds fuel listed a w (i :: rs) := fun j hj => by
  rcases List.mem_cons.1 hj with rfl | hj
  · exact wpOp_step ho (fun K' hK => h K' (fun a w hS hW => hK a w ⟨fun _ _ => hS, hW hS⟩))
  · exact hs j hj
theorem wpAnyLast_ready {rs : List Nat} {fuel : Nat} {listed : Array Bool} {a : Act} {w : World} (hr : Region.ready md ops listed = rs) (hne : rs ≠ [])
    (h : AllReadyL P md ops Q S ds fuel listed a w rs) : wpAnyLast P md ops Q S ds (fuel + 1) listed a w := wpAnyLast_all hr hne h
def readyB (md : Region.Mode) (ops : Array Oper) (l l' : Array Bool) (i : Nat) : Bool := (Region.ready md ops l == [i]) && (l.setIfInBounds i true == l')
/-- One operation alone may come up now (a call, a build, an append ..): it is run, S is shown behind it. -/
theorem one_ {i : Nat} {N : Option Tmp} {oi : Oper} {fuel : Nat} {l : Array Bool} {a : Act} {w : World} (l' : Array Bool) (hi : ops[i]? = some oi) (hN : oi.dst = N) (hc : readyB md ops l l' i = true) (hd : i ∉ ds)
    (h : ∀ K : Act → World → Prop, Shut (∀ a' w', S w' → (S w' → wpAnyLast P md ops Q S ds fuel l' a' w') → K a' w') → if Region.wanted oi (yielded ops a.tmps) = true then Oper.wp P oi a w K Q else K (a.put N undef) w) :
    wpAnyLast P md ops Q S ds (fuel + 1) l a w := by
  subst hN
  simp only [readyB, Bool.and_eq_true, beq_iff_eq] at hc
  obtain ⟨h1, h2⟩ := hc
  subst h2
  exact wpAnyLast_ready h1 (by simp) (AllReadyL.cons hi hd (fun K hK => h K hK) AllReadyL.nil)
theorem two_ {i j : Nat} {Ni Nj : Option Tmp} {oi oj : Oper} {fuel : Nat} {l : Array Bool} {a : Act} {w : World} (li lj : Array Bool) (hi : ops[i]? = some oi) (hj : ops[j]? = some oj) (hNi : oi.dst = Ni) (hNj : oj.dst = Nj)
    (hc : (Region.ready md ops l == [i, j] && l.setIfInBounds i true == li && l.setIfInBounds j true == lj) = true) (hdi : i ∉ ds) (hdj : j ∉ ds)
    (h1 : ∀ K : Act → World → Prop, Shut (∀ a' w', S w' → (S w' → wpAnyLast P md ops Q S ds fuel li a' w') → K a' w') → if Region.wanted oi (yielded ops a.tmps) = true then Oper.wp P oi a w K Q else K (a.put Ni undef) w)
    (h2 : ∀ K : Act → World → Prop, Shut (∀ a' w', S w' → (S w' → wpAnyLast P md ops Q S ds fuel lj a' w') → K a' w') → if Region.wanted oj (yielded ops a.tmps) = true then Oper.wp P oj a w K Q else K (a.put Nj undef) w) :
    wpAnyLast P md ops Q S ds (fuel + 1) l a w := by
  subst hNi
  subst hNj
  simp only [Bool.and_eq_true, beq_iff_eq] at hc
  obtain ⟨⟨h3, h4⟩, h5⟩ := hc
  subst h4
  subst h5
  exact wpAnyLast_ready h3 (by simp) (AllReadyL.cons hi hdi (fun K hK => h1 K hK) (AllReadyL.cons hj hdj (fun K hK => h2 K hK) AllReadyL.nil))
theorem three_ {i j k : Nat} {Ni Nj Nk : Option Tmp} {oi oj ok : Oper} {fuel : Nat} {l : Array Bool} {a : Act} {w : World} (li lj lk : Array Bool) (hi : ops[i]? = some oi) (hj : ops[j]? = some oj) (hk : ops[k]? = some ok) (hNi : oi.dst = Ni) (hNj : oj.dst = Nj) (hNk : ok.dst = Nk)
    (hc : (Region.ready md ops l == [i, j, k] && l.setIfInBounds i true == li && l.setIfInBounds j true == lj && l.setIfInBounds k true == lk) = true) (hdi : i ∉ ds) (hdj : j ∉ ds) (hdk : k ∉ ds)
    (h1 : ∀ K : Act → World → Prop, Shut (∀ a' w', S w' → (S w' → wpAnyLast P md ops Q S ds fuel li a' w') → K a' w') → if Region.wanted oi (yielded ops a.tmps) = true then Oper.wp P oi a w K Q else K (a.put Ni undef) w)
    (h2 : ∀ K : Act → World → Prop, Shut (∀ a' w', S w' → (S w' → wpAnyLast P md ops Q S ds fuel lj a' w') → K a' w') → if Region.wanted oj (yielded ops a.tmps) = true then Oper.wp P oj a w K Q else K (a.put Nj undef) w)
    (h3 : ∀ K : Act → World → Prop, Shut (∀ a' w', S w' → (S w' → wpAnyLast P md ops Q S ds fuel lk a' w') → K a' w') → if Region.wanted ok (yielded ops a.tmps) = true then Oper.wp P ok a w K Q else K (a.put Nk undef) w) :
    wpAnyLast P md ops Q S ds (fuel + 1) l a w := by
  subst hNi
  subst hNj
  subst hNk
  simp only [Bool.and_eq_true, beq_iff_eq] at hc
  obtain ⟨⟨⟨h4, h5⟩, h6⟩, h7⟩ := hc
  subst h5
  subst h6
  subst h7
  exact wpAnyLast_ready h4 (by simp) (AllReadyL.cons hi hdi (fun K hK => h1 K hK) (AllReadyL.cons hj hdj (fun K hK => h2 K hK) (AllReadyL.cons hk hdk (fun K hK => h3 K hK) AllReadyL.nil)))
/-- The act with some destinations filled. -/
def putAll : Act → List (Tmp × Value) → Act
  | a, [] => a
  | a, (n, v) :: r => putAll (a.put (some n) v) r
/-- What follows, once: s the values that the orders leave, F what is known of them and of the world. -/
theorem join_ {σ : Type} {fuel : Nat} {l : Array Bool} {a : Act} {w : World} (fuel' : Nat) (l' : Array Bool) (ns : σ → List (Tmp × Value)) (F : σ → World → Prop)
    (hcont : ∀ s w', F s w' → wpAnyLast P md ops Q S ds fuel' l' (putAll a (ns s)) w')
    (h : (∀ s w', F s w' → wpAnyLast P md ops Q S ds fuel' l' (putAll a (ns s)) w') → wpAnyLast P md ops Q S ds fuel l a w) : wpAnyLast P md ops Q S ds fuel l a w := h hcont
theorem enters_ {f : FuncId} {fn : Func} (hf : P.funcs[f]? = some fn) (hname : (fn.name == "runtime.NumGoroutine") = false) (hb : fn.body.isSome = true) (args : Array Value) (w : World) : (callFunc f args).run P w = .ok (.enter f args) w := by
  have h1 : fn.name ≠ "runtime.NumGoroutine" := by simpa using hname
  obtain ⟨c, hc⟩ := Option.isSome_iff_exists.1 hb
  simp [callFunc, hf, h1, hc]
/-- A call in a plain region, as1_ an arm of go_wp2_with ('hd' first: it fails at once at another operation). -/
theorem goesL_ {rest : List Oper} {oi : Oper} {a : Act} {w : World} (N : Option Tmp) (hd : oi.dst = N) (hg : oi.guard = none) {f : FuncId} {fn : Func} {as1_ : Array Operand} {ts : Array TypeId} (hf : P.funcs[f]? = some fn) (hname : (fn.name == "runtime.NumGoroutine") = false) (hb : fn.body.isSome = true) (args : Array Value)
    (hop : oi.op = .call { callee := .value (.func f), args := as1_, argTypes := ts }) (hargs : as1_.map a.eval = args)
    (h : Calls P f args w fun e w' => ∃ v, e = .returned v ∧ wpList P ops Q rest (a.put N v) w') : wpList P ops Q (oi :: rest) a w := by
  refine wpList_plain hg fun K hK => ?_
  have he := enters_ hf hname hb args w
  have hrun : (execOp a.eval oi).run P w = .ok (.enter f args) w := by
    unfold execOp
    simp [hop, resolve, Deferred.ofValue, invoke, Act.eval, hargs, he]
  unfold Oper.wp
  rw [hrun, Oper.upon_enter]
  refine h.mono fun e w'' hh => ?_
  obtain ⟨v, rfl, hk⟩ := hh
  subst hd
  exact hK _ _ hk
theorem i64_w (n : Int) : IntKind.i64.wrap n = Go.RowKit.wrap64 n := by unfold Go.RowKit.wrap64; exact IntKind.wrap_i64 n
theorem i32_w (n : Int) : IntKind.i32.wrap n = Go.RowKit.wrap32 n := by unfold Go.RowKit.wrap32; exact IntKind.wrap_i32 n
end
end Go.Proofs.YtpmieapgbdbabaaDoorW.PrintLast
end

section
namespace Go.Proofs.YtpmieapgbdbabaaDoorW.PrintLast
open Go.Proofs.YtpmieapgbdbabaaDoorW.PrintWords (Aside0)
section
variable {md : Region.Mode} {ops : Array Oper} {T : Bool × List (List Nat × List Nat)} {l l' li lj lk : Array Bool} {ds : List Nat} {i j k : Nat}
end
end Go.Proofs.YtpmieapgbdbabaaDoorW.PrintLast
end

section
namespace Go.Proofs.YtpmieapgbdbabaaDoorW.PrintLast
section
variable {P : Program} {ops : Array Oper} {Q : Exit → Act → World → Prop} {md : Region.Mode} {S : World → Prop} {ds : List Nat} {T : Bool × List (List Nat × List Nat)}
end
end Go.Proofs.YtpmieapgbdbabaaDoorW.PrintLast
end

section
namespace Go.Proofs.YtpmieapgbdbabaaDoorW.PrintWords
open Go.RowKit
namespace Kd
section
variable {α : Type} {d : Kd α} {e base g o n cap : Nat} {ok okp : Nat → Prop} {w W : World} {v : Value} {xs : List α}
theorem Q_form (h : d.Q e w base ok v xs) (hp : 0 < xs.length) : ∃ g o cap, v = .slice (some ⟨g, o, none⟩) xs.length cap ∧ base ≤ g ∧ g < w.heap.size ∧ ∃ cells, w.heap[g]? = some (.cells cells e (0, 0)) := by
  obtain ⟨h0, inner, hq, hr⟩ := h
  rcases hq.2 with ⟨h1, _⟩ | ⟨g, off, cap, cur, rfl, hb, hh, r⟩
  · omega
  · exact ⟨g, off * d.sz, cap, rfl, hb, blk_lt hh, cur, hh⟩
/-- Element i of such a row: its cells. -/
theorem Q_elem (h : d.Q e W base ok (.slice (some ⟨g, o, none⟩) n cap) xs) (z : α) (i : Int) (h0 : 0 ≤ i) (h1 : i < n) :
    ∃ c, c.length = d.sz ∧ d.M W base (fun k => ok k ∧ k ≠ g) (xs.getD i.toNat z) c ∧ (∀ j u, c[j]? = some u → W.cell? ⟨g, o + i.toNat * d.sz + j, none⟩ = some u) ∧ ∀ j, W.frozen? ⟨g, o + i.toNat * d.sz + j, none⟩ = false := by
  obtain ⟨hn, hnc, hC⟩ := Q_reads' h
  obtain ⟨_, inner, ho, hr⟩ := h
  have hil : i.toNat < xs.length := by omega
  have hseg : i.toNat * d.sz + d.sz ≤ inner.length := by rw [hr.1, ← Nat.succ_mul]; exact Nat.mul_le_mul_right _ hil
  have hM := hr.2 i.toNat _ (List.getElem?_eq_getElem hil)
  refine ⟨(inner.drop (i.toNat * d.sz)).take d.sz, by rw [List.length_take, List.length_drop]; omega, ?_, fun j u hu => ?_, fun j => ?_⟩
  · rw [List.getD_eq_getElem?_getD, List.getElem?_eq_getElem hil]
    exact d.M_mono (fun k hk => ⟨hk.1, fun he => hk.2 (by rw [he]; simp [Value.ownBlock])⟩) hM
  · rw [List.getElem?_take] at hu
    split at hu
    · rw [List.getElem?_drop] at hu
      subst hn
      obtain ⟨ad, he, hc⟩ := q_cells ho (by omega)
      injection he with he
      subst he
      have := hc _ u hu
      rwa [add_at, ← Nat.add_assoc] at this
    · cases hu
  · obtain ⟨_, cells, hc⟩ := q_typed ho g (by simp [Value.ownBlock])
    exact blk_frozen hc _
/-- A run of cells of element i is written: element i is x' then. c: the element's cells before (Q_elem). -/
theorem Q_seg (h : d.Q e W base ok (.slice (some ⟨g, o, none⟩) n cap) xs) (i : Int) (h0 : 0 ≤ i) (h1 : i < n) {c seg : List Value} {j : Nat} (hcl : c.length = d.sz) (hcc : ∀ j u, c[j]? = some u → W.cell? ⟨g, o + i.toNat * d.sz + j, none⟩ = some u)
    (hj : j + seg.length ≤ d.sz) {x' : α} (hM : d.M W base okp x' (c.take j ++ seg ++ c.drop (j + seg.length))) (hokp : ∀ k, okp k → ok k ∧ k ≠ g) :
    d.Q e (W.setCells g (o + i.toNat * d.sz + j) seg) base ok (.slice (some ⟨g, o, none⟩) n cap) (xs.set i.toNat x') ∧ W.grownBy (W.setCells g (o + i.toNat * d.sz + j) seg) (some g) := by
  obtain ⟨hn, hnc, _⟩ := Q_reads' h
  obtain ⟨hok, inner, ho, hr⟩ := h
  have hil : i.toNat < xs.length := by omega
  have hseg : i.toNat * d.sz + d.sz ≤ inner.length := by rw [hr.1, ← Nat.succ_mul]; exact Nat.mul_le_mul_right _ hil
  have hin : inner.length = n * d.sz := by rw [hr.1, hn]
  obtain ⟨ho1, ho2⟩ := ho
  rcases ho2 with ⟨hz, _⟩ | ⟨g', off, cap', cur, hv, hb, hh, hnc', hcm, hcs, ht⟩
  · omega
  injection hv with ha _ hc
  injection ha with ha
  injection ha with hg hoff
  subst hg; subst hc; subst hoff
  have hcap : n * d.sz ≤ cap * d.sz := Nat.mul_le_mul_right _ hnc
  have hcs' : cur.size = off * d.sz + cap * d.sz := by rw [hcs, Nat.add_mul]
  have hfit : off * d.sz + i.toNat * d.sz + j + seg.length ≤ cur.size := by omega
  obtain ⟨cur', h3, h4, h5⟩ := setCells_row seg (off * d.sz + i.toNat * d.sz + j) W cur hh hfit
  obtain ⟨s1, s2, s3, s4⟩ := setCells_same g seg (off * d.sz + i.toNat * d.sz + j) W
  have hfar : ∀ k, k ≠ g → (W.setCells g (off * d.sz + i.toNat * d.sz + j) seg).heap[k]? = W.heap[k]? := fun k hk => setCells_far seg _ k hk
  rw [← hn] at ht
  -- the row's cells are the block's from off on
  have hat : ∀ q, q < n * d.sz → cur.toList[off * d.sz + q]? = inner[q]? := by
    intro q hq
    rw [← ht, List.getElem?_take, if_pos hq, List.getElem?_drop]
  have hcin : ∀ q, q < d.sz → c[q]? = inner[i.toNat * d.sz + q]? := by
    intro q hq
    have hq' : q < c.length := by omega
    have h6 := hcc q _ (List.getElem?_eq_getElem hq')
    rw [cell_of_row W g _ cur e (0, 0) hh] at h6
    rw [List.getElem?_eq_getElem hq', ← h6, ← hat _ (by omega), Array.getElem?_toList, Nat.add_assoc]
  refine ⟨⟨hok, inner.take (i.toNat * d.sz + j) ++ seg ++ inner.drop (i.toNat * d.sz + j + seg.length), ⟨?_, .inr ⟨g, off, cap, cur', by rw [List.length_set, hn], hb, h3, by rw [List.length_set, ← hn]; exact hnc, hcm, by rw [h4, hcs], ?_⟩⟩, ?_⟩,
    ⟨s1, s2, s3, by rw [s4]; exact Nat.le_refl _, fun k _ hk => hfar k (fun he => hk (by rw [he]))⟩⟩
  · rw [List.length_set]
    simp only [List.length_append, List.length_take, List.length_drop]
    rw [hr.1] at hseg ⊢
    omega
  · rw [List.length_set, ← hn]
    apply List.ext_getElem?
    intro q
    rw [List.getElem?_take, List.getElem?_drop, h5]
    rw [seg_get cur.toList seg (off * d.sz + i.toNat * d.sz + j) (by rw [Array.length_toList]; omega) (off * d.sz + q), seg_get inner seg (i.toNat * d.sz + j) (by omega) q]
    by_cases hq : q < n * d.sz
    · rw [if_pos hq]
      by_cases hq1 : q < i.toNat * d.sz + j
      · rw [if_pos (by omega), if_pos hq1, hat q hq]
      · rw [if_neg (by omega), if_neg hq1]
        by_cases hq2 : q < i.toNat * d.sz + j + seg.length
        · rw [if_pos (by omega), if_pos hq2]
          congr 1
          omega
        · rw [if_neg (by omega), if_neg hq2, hat q hq]
    · rw [if_neg hq, if_neg (by omega), if_neg (by omega), List.getElem?_eq_none (by omega)]
  · refine ⟨?_, fun m p hm => ?_⟩
    · rw [List.length_set]
      simp only [List.length_append, List.length_take, List.length_drop]
      rw [hr.1] at hseg ⊢
      omega
    · have hml : m < xs.length := by
        have := (List.getElem?_eq_some_iff.1 hm).1
        rwa [List.length_set] at this
      have hmfit : m * d.sz + d.sz ≤ inner.length := by rw [hr.1, ← Nat.succ_mul]; exact Nat.mul_le_mul_right _ hml
      have hgo : some g = (Value.slice (some ⟨g, off * d.sz, none⟩) n cap).ownBlock := by simp [Value.ownBlock]
      by_cases hmi : m = i.toNat
      · subst hmi
        rw [List.getElem?_set_self (by omega)] at hm
        injection hm with hm
        subst hm
        have hcells : ((inner.take (i.toNat * d.sz + j) ++ seg ++ inner.drop (i.toNat * d.sz + j + seg.length)).drop (i.toNat * d.sz)).take d.sz = c.take j ++ seg ++ c.drop (j + seg.length) := by
          apply List.ext_getElem?
          intro q
          rw [List.getElem?_take, List.getElem?_drop, seg_get inner seg _ (by omega), seg_get c seg j (by omega) q]
          by_cases hq : q < d.sz
          · rw [if_pos hq, hcin q hq]
            by_cases hq1 : q < j
            · rw [if_pos (by omega), if_pos hq1]
            · rw [if_neg (by omega), if_neg hq1]
              by_cases hq2 : q < j + seg.length
              · rw [if_pos (by omega), if_pos hq2]
                congr 1
                omega
              · rw [if_neg (by omega), if_neg hq2]
          · rw [if_neg hq, if_neg (by omega), if_neg (by omega), List.getElem?_eq_none (by omega)]
        rw [hcells]
        refine d.M_mono (fun k hk => ?_) (d.M_move (w1 := W.setCells g (off * d.sz + i.toNat * d.sz + j) seg) (fun k hk => hfar k (hokp k hk).2) hM)
        exact ⟨(hokp k hk).1, fun he => (hokp k hk).2 (by rw [← hgo] at he; injection he)⟩
      · rw [List.getElem?_set_ne (by omega)] at hm
        have hold := hr.2 m p hm
        have hcells : ((inner.take (i.toNat * d.sz + j) ++ seg ++ inner.drop (i.toNat * d.sz + j + seg.length)).drop (m * d.sz)).take d.sz = (inner.drop (m * d.sz)).take d.sz := by
          apply List.ext_getElem?
          intro q
          rw [List.getElem?_take, List.getElem?_take, List.getElem?_drop, List.getElem?_drop, seg_get inner seg _ (by omega)]
          by_cases hq : q < d.sz
          · rw [if_pos hq, if_pos hq]
            rcases Nat.lt_or_gt_of_ne hmi with hlt | hgt
            · have : m * d.sz + d.sz ≤ i.toNat * d.sz := by rw [← Nat.succ_mul]; exact Nat.mul_le_mul_right _ hlt
              rw [if_pos (by omega)]
            · have : i.toNat * d.sz + d.sz ≤ m * d.sz := by rw [← Nat.succ_mul]; exact Nat.mul_le_mul_right _ hgt
              rw [if_neg (by omega), if_neg (by omega)]
          · rw [if_neg hq, if_neg hq]
        rw [hcells]
        refine d.M_move (fun k hk => hfar k (fun he => hk.2 (by rw [he]; exact hgo))) hold
end
section
variable {α : Type} {enc : α → Value} {h1 : ∀ x, (enc x).oneCell' = true} {e base g o n cap : Nat} {ok : Nat → Prop} {W : World} {xs : List α}
theorem Q_cell (d : α) (h : (scalar enc h1).Q e W base ok (.slice (some ⟨g, o, none⟩) n cap) xs) (i : Int) (h0 : 0 ≤ i) (hi : i < n) : W.cell? ⟨g, o + i.toNat, none⟩ = some (enc (rdOf d xs i)) ∧ W.frozen? ⟨g, o + i.toNat, none⟩ = false := by
  obtain ⟨c, _, hM, hcc, hf⟩ := Q_elem h d i h0 hi
  have hM' : c = [enc (xs.getD i.toNat d)] := hM
  subst hM'
  have h2 := hcc 0 _ rfl
  have h3 := hf 0
  rw [show (scalar enc h1).sz = 1 from rfl, Nat.mul_one, Nat.add_zero] at h2 h3
  exact ⟨h2, h3⟩
theorem Q_putg (h : (scalar enc h1).Q e W base ok (.slice (some ⟨g, o, none⟩) n cap) xs) (i : Int) (h0 : 0 ≤ i) (hi : i < n) (x : α) : (scalar enc h1).Q e (W.setCell ⟨g, o + i.toNat, none⟩ (enc x)) base ok (.slice (some ⟨g, o, none⟩) n cap) (xs.set i.toNat x) ∧ W.grownBy (W.setCell ⟨g, o + i.toNat, none⟩ (enc x)) (some g) := by
  have hp : 0 < xs.length := by have := (Q_reads' h).1; omega
  obtain ⟨c, hcl, _, hcc, _⟩ := Q_elem h (xs[0]'hp) i h0 hi
  have h2 := Q_seg h i h0 hi (c := c) (seg := [enc x]) (j := 0) (okp := fun _ => False) (x' := x) hcl hcc (Nat.le_refl 1) (by
    have hl : c.length = 1 := hcl
    show c.take 0 ++ [enc x] ++ c.drop (0 + 1) = [enc x]
    rw [List.drop_eq_nil_of_le (by omega)]
    rfl) (fun _ hk => hk.elim)
  rw [show (scalar enc h1).sz = 1 from rfl, Nat.mul_one, Nat.add_zero] at h2
  exact h2
end
end Kd
end Go.Proofs.YtpmieapgbdbabaaDoorW.PrintWords
end

section
namespace Go.Proofs.YtpmieapgbdbabaaDoorW.PrintWords
open Go.RowKit
namespace Kd
/-- An element with its index: its blocks are those that f gives to it. -/
def tag {α : Type} (f : Nat → Nat) (d : Kd α) : Kd (α × Nat) where
  sz := d.sz
  E := d.E
  K := fun w x cs => d.K w x.1 cs
  M := fun w base ok x cs => d.M w base (fun k => ok k ∧ f k = x.2) x.1 cs
  K_len := fun h => d.K_len h
  K_one := fun h => d.K_one h
  K_below := fun hb h => d.K_below hb h
  K_of_M := fun h => d.K_of_M h
  M_mono := fun hok h => d.M_mono (fun k hk => ⟨hok k hk.1, hk.2⟩) h
  M_bound := fun h => d.M_mono (fun _ hk => ⟨⟨hk.1.1, hk.2⟩, hk.1.2⟩) (d.M_bound h)
  M_move := fun hm h => d.M_move (fun k hk => hm k hk.1) h
  M_lower := fun hb h => d.M_lower hb h
/-- The cells themselves. -/
def raw (sz : Nat) : Kd (List Value) where
  sz := sz
  E := []
  K := fun _ x cs => cs = x ∧ cs.length = sz ∧ ∀ u ∈ cs, u.oneCell' = true
  M := fun _ _ _ x cs => cs = x ∧ cs.length = sz ∧ ∀ u ∈ cs, u.oneCell' = true
  K_len := fun h => h.2.1
  K_one := fun h => h.2.2
  K_below := fun _ h => h
  K_of_M := fun h => h
  M_mono := fun _ h => h
  M_bound := fun h => h
  M_move := fun _ h => h
  M_lower := fun _ h => h
/-- A row of elements (type e) of the call's own, no two of which lead to one block. -/
def S {α : Type} (d : Kd α) (e : Nat) (w : World) (base : Nat) (ok : Nat → Prop) (v : Value) (xs : List α) : Prop := ∃ f, (tag f d).R e w base ok v xs.zipIdx
section
variable {α β : Type} {d : Kd α} {d' : Kd β} {e e' : Nat} {w w1 W : World} {base b : Nat} {ok ok' okv oku : Nat → Prop} {u v : Value} {xs : List α} {ys : List β}
end
section
variable {α β : Type} {d : Kd α} {d' : Kd β} {e e' g : Nat} {w w1 W : World} {base b : Nat} {ok ok' okv oku : Nat → Prop} {u v : Value} {xs : List α} {ys : List β}
end
section
variable {P : Program} {ops : Array Oper} {rest : List Oper} {o : Oper} {a : Act} {Q : Exit → Act → World → Prop} {Kc : Act → World → Prop} {α : Type}
end
/-- Element i is these cells; the others are d's. -/
def gap {α : Type} (f : Nat → Nat) (d : Kd α) (i : Nat) (c : List Value) : Kd (α × Nat) where
  sz := d.sz
  E := d.E
  K := fun w x cs => (x.2 = i → cs = c ∧ cs.length = d.sz ∧ ∀ u ∈ cs, u.oneCell' = true) ∧ (x.2 ≠ i → d.K w x.1 cs)
  M := fun w base ok x cs => (x.2 = i → cs = c ∧ cs.length = d.sz ∧ ∀ u ∈ cs, u.oneCell' = true) ∧ (x.2 ≠ i → d.M w base (fun k => ok k ∧ f k = x.2) x.1 cs)
  K_len := fun {w x cs} h => by
    by_cases hx : x.2 = i
    · exact (h.1 hx).2.1
    · exact d.K_len (h.2 hx)
  K_one := fun {w x cs} h => by
    by_cases hx : x.2 = i
    · exact (h.1 hx).2.2
    · exact d.K_one (h.2 hx)
  K_below := fun hb h => ⟨h.1, fun hx => d.K_below hb (h.2 hx)⟩
  K_of_M := fun h => ⟨h.1, fun hx => d.K_of_M (h.2 hx)⟩
  M_mono := fun hok h => ⟨h.1, fun hx => d.M_mono (fun k hk => ⟨hok k hk.1, hk.2⟩) (h.2 hx)⟩
  M_bound := fun h => ⟨h.1, fun hx => d.M_mono (fun _ hk => ⟨⟨hk.1.1, hk.2⟩, hk.1.2⟩) (d.M_bound (h.2 hx))⟩
  M_move := fun hm h => ⟨h.1, fun hx => d.M_move (fun k hk => hm k hk.1) (h.2 hx)⟩
  M_lower := fun hb h => ⟨h.1, fun hx => d.M_lower hb (h.2 hx)⟩
def H {α : Type} (d : Kd α) (e : Nat) (w : World) (base : Nat) (ok : Nat → Prop) (v : Value) (xs : List α) (i : Int) (oki : Nat → Prop) (c : List Value) : Prop :=
  (∀ k, oki k → ok k) ∧ ∃ f, (gap f d i.toNat c).R e w base (fun k => ok k ∧ ¬ oki k) v xs.zipIdx
section
variable {α β : Type} {d : Kd α} {e e' g n cap : Nat} {w w1 W : World} {base : Nat} {ok ok' oki okp : Nat → Prop} {u v : Value} {xs : List α} {i : Int} {c : List Value}
end
section
variable {P : Program} {ops : Array Oper} {rest : List Oper} {o : Oper} {a : Act} {Q : Exit → Act → World → Prop} {α : Type}
end
end Kd
end Go.Proofs.YtpmieapgbdbabaaDoorW.PrintWords
end

section
namespace Go.Proofs.YtpmieapgbdbabaaDoorW.PrintWords
open Go.RowKit
namespace Kd
section
variable {α : Type} {n : Nat} {d : Kd α} {hs : 0 < d.sz} {w : World} {base : Nat} {ok : Nat → Prop} {xs : List α} {cs : List Value}
end
section
variable {α : Type} {n : Nat} {enc : α → Value} {h1 : ∀ x, (enc x).oneCell' = true} {hs : 0 < (scalar enc h1).sz} {w : World} {base : Nat} {ok : Nat → Prop} {xs : List α} {cs : List Value}
end
end Kd
end Go.Proofs.YtpmieapgbdbabaaDoorW.PrintWords
end

section
namespace Go.Proofs.YtpmieapgbdbabaaDoorW.PrintWords
open Go.RowKit
section
variable {P : Program}
end
namespace Kd
section
variable {P : Program} {ops : Array Oper} {rest : List Oper} {o : Oper} {a : Act} {Q : Exit → Act → World → Prop} {Kc : Act → World → Prop} {α : Type}
end
section
variable {α : Type} {d : Kd α} {e : Nat} {w : World} {base : Nat} {ok : Nat → Prop} {v : Value} {xs : List α}
end
section
variable {P : Program} {ops : Array Oper} {rest : List Oper} {o : Oper} {a : Act} {Q : Exit → Act → World → Prop} {Kc : Act → World → Prop} {α : Type}
end
end Kd
end Go.Proofs.YtpmieapgbdbabaaDoorW.PrintWords
end

section
namespace Go.Proofs.YtpmieapgbdbabaaDoorW.PrintWords
open Go.RowKit
namespace Kd
/-- What a kind reads lies in the blocks: nothing else of the world is looked at. -/
structure Heap {α : Type} (d : Kd α) : Prop where
  K : ∀ {w w1 : World} {x : α} {cs : List Value}, (∀ k, k < w.heap.size → w1.heap[k]? = w.heap[k]?) → d.K w x cs → d.K w1 x cs
theorem cell_heap {w w1 : World} (hb : ∀ k, k < w.heap.size → w1.heap[k]? = w.heap[k]?) {a : Addr} {v : Value} (h : w.cell? a = some v) : w1.cell? a = some v := by
  have := hb a.block (World.block_lt_of_cell? w a h)
  simpa [World.cell?, this] using h
theorem Heap.C {α : Type} {d : Kd α} (hd : Heap d) {w w1 : World} {A : Option Addr} {n : Nat} {xs : List α} (hb : ∀ k, k < w.heap.size → w1.heap[k]? = w.heap[k]?) (h : d.C w A n xs) : d.C w1 A n xs :=
  ⟨h.1, h.2.1, fun hn => by
    obtain ⟨ad, e, hc⟩ := h.2.2 hn
    refine ⟨ad, e, fun j p hj => ?_⟩
    obtain ⟨c, hs, hr, hcell⟩ := hc j p hj
    exact ⟨c, hs, hd.K hb hr, fun i u hu => cell_heap hb (hcell i u hu)⟩⟩
section
variable {α : Type} {d : Kd α} {e base g n c : Nat} {ok : Nat → Prop} {w w0 W : World} {A : Option Addr} {xs : List α}
end
end Kd
end Go.Proofs.YtpmieapgbdbabaaDoorW.PrintWords
end

section
namespace Go.Proofs.YtpmieapgbdbabaaDoorW.PrintWords
open Go.RowKit
def Kept (w W : World) (S : Nat → Prop) : Prop := w.heap.size ≤ W.heap.size ∧ ∀ i, i < w.heap.size → ¬ S i → W.heap[i]? = w.heap[i]?
section
variable {w W W2 : World} {S S2 S' : Nat → Prop}
theorem Kept.refl (w : World) (S : Nat → Prop) : Kept w w S := ⟨Nat.le_refl _, fun _ _ _ => rfl⟩
theorem Kept.of_below (h : Below w.heap.size w W) (S : Nat → Prop) : Kept w W S := ⟨h.size, fun i hi _ => h.block i hi⟩
theorem Kept.mono (h : Kept w W S) (hs : ∀ k, S k → S' k) : Kept w W S' := ⟨h.1, fun i hi hn => h.2 i hi (fun hk => hn (hs i hk))⟩
theorem Kept.then_ (h : Kept w W S) (k : Kept W W2 S2) (hs : ∀ k, S2 k → S k ∨ w.heap.size ≤ k) : Kept w W2 S :=
  ⟨Nat.le_trans h.1 k.1, fun i hi hn => (k.2 i (Nat.lt_of_lt_of_le hi h.1) (fun h2 => (hs i h2).elim hn (fun h3 => by omega))).trans (h.2 i hi hn)⟩
theorem Kept.below (h : Kept w W S) (hb : Below W.heap.size W W2) : Kept w W2 S := h.then_ (Kept.of_below hb (fun _ => False)) (fun _ hk => hk.elim)
theorem Kept.alloc (h : Kept w W S) (o : Obj) : Kept w (W.alloc o) S := h.below (below_alloc (Below.refl _ _) o)
theorem Kept.drew (h : Kept w W S) : Kept w W.drew S := h
theorem Kept.drewN (h : Kept w W S) (m : Nat) : Kept w (W.drewN m) S := h
theorem Kept.setCell (h : Kept w W S) {p : Addr} (hp : S p.block ∨ w.heap.size ≤ p.block) (u : Value) : Kept w (W.setCell p u) S :=
  h.then_ (S2 := fun k => k = p.block) ⟨by simp [World.setCell], fun i _ hn => Below.heap_setCell W p u i hn⟩ (fun k hk => by rw [hk]; exact hp)
/-- Beside a state: what was written is new since. -/
theorem Kept.keep {g : Nat} (h : KeepBut w W g none) (k : Kept W W2 S2) (hs : ∀ k, S2 k → w.heap.size ≤ k) : KeepBut w W2 g none :=
  ⟨Nat.le_trans h.1 k.1, fun i hi hg hr => (k.2 i (Nat.lt_of_lt_of_le hi h.1) (fun h2 => by have := hs i h2; omega)).trans (h.2 i hi hg hr)⟩
end
namespace Kd
section
variable {α : Type} {d : Kd α} {e base n c : Nat} {ok oki S S2 : Nat → Prop} {w w0 W W1 W2 : World} {v : Value} {A : Option Addr} {xs : List α} {i : Int} {cs : List Value}
end
end Kd
end Go.Proofs.YtpmieapgbdbabaaDoorW.PrintWords
end

section
namespace Go.Proofs.YtpmieapgbdbabaaDoorW.PrintWords
open Go.RowKit
/-- P holds in W and in every world that has W's blocks of ok. -/
def Foot (P : World → Prop) (W : World) (ok : Nat → Prop) : Prop := ∀ W' : World, (∀ k, ok k → k < W.heap.size → W'.heap[k]? = W.heap[k]?) → P W'
theorem heap_lt {W W1 : World} {k : Nat} (h : W1.heap[k]? = W.heap[k]?) (hlt : k < W.heap.size) : k < W1.heap.size := by
  rw [Array.getElem?_eq_getElem hlt] at h
  exact (Array.getElem?_eq_some_iff.1 h).1
namespace Foot
variable {P Q : World → Prop} {W W1 : World} {ok ok' : Nat → Prop}
theorem now (h : Foot P W ok) : P W := h W (fun _ _ _ => rfl)
theorem mono (h : Foot P W ok) (hok : ∀ k, ok k → ok' k) : Foot P W ok' := fun W' hW => h W' (fun k hk hlt => hW k (hok k hk) hlt)
theorem bound (h : Foot P W ok) : Foot P W (fun k => ok k ∧ k < W.heap.size) := fun W' hW => h W' (fun k hk hlt => hW k ⟨hk, hlt⟩ hlt)
theorem step (h : Foot P W ok) (hm : ∀ k, ok k → k < W.heap.size → W1.heap[k]? = W.heap[k]?) : Foot P W1 ok := fun W' hW => h W' (fun k hk hlt => (hW k hk (heap_lt (hm k hk hlt) hlt)).trans (hm k hk hlt))
theorem imp (h : Foot P W ok) (hi : ∀ W', P W' → Q W') : Foot Q W ok := fun W' hW => hi W' (h W' hW)
/-- Moved, and still elder than what is new since W. -/
theorem old (h : Foot P W ok) (hb : Below W.heap.size W W1) : Foot P W1 (fun k => ok k ∧ k < W.heap.size) := (h.bound).step (fun k _ hlt => hb.block k hlt)
end Foot
namespace Kd
/-- A row that is only read: what it leads to lies in ok. -/
def F {α : Type} (d : Kd α) (W : World) (ok : Nat → Prop) (A : Option Addr) (n : Nat) (xs : List α) : Prop := Foot (fun W => d.C W A n xs) W ok
/-- An element's cells: what they lead to lies in ok. -/
def FK {α : Type} (d : Kd α) (W : World) (ok : Nat → Prop) (x : α) (c : List Value) : Prop := Foot (fun W => d.K W x c) W ok
section
variable {α β : Type} {d : Kd α} {e base n n' cc g N : Nat} {ok ok' okp S : Nat → Prop} {w w0 w1 W W1 : World} {A A' : Option Addr} {u v v1 : Value} {xs : List α} {xs' : List β} {d' : Kd β} {x : α} {c : List Value}
end
end Kd
end Go.Proofs.YtpmieapgbdbabaaDoorW.PrintWords
end

section
namespace Go.Proofs.YtpmieapgbdbabaaDoorW.PrintWords
open Go.RowKit
namespace Kd
section
variable {α : Type} {d : Kd α} {e base n cc g : Nat} {ok ok' okp S : Nat → Prop} {w w1 W W1 : World} {A : Option Addr} {u v v1 : Value} {xs : List α} {x : α} {c : List Value}
/-- A row of elements (type e) of the call's own; what the elements lead to is only read, and is not this row. -/
def N {α : Type} (d : Kd α) (e : Nat) (w : World) (base : Nat) (ok : Nat → Prop) (v : Value) (xs : List α) : Prop :=
  (∀ k, v.ownBlock = some k → ok k) ∧ ∃ rows : List (List Value), rows.length = xs.length ∧ (raw d.sz).R e w base (fun k => some k = v.ownBlock) v rows ∧ ∀ (j : Nat) (x : α) (c : List Value), xs[j]? = some x → rows[j]? = some c → FK d w (fun k => ok k ∧ some k ≠ v.ownBlock) x c
end
end Kd
end Go.Proofs.YtpmieapgbdbabaaDoorW.PrintWords
end

section
namespace Go.Proofs.YtpmieapgbdbabaaDoorW.PrintWords
open Go.RowKit
namespace Kd
section
variable {α : Type} {d : Kd α} {W : World} {g n : Nat} {S ok : Nat → Prop} {A : Option Addr} {ad : Addr} {xs : List α}
end
end Kd
end Go.Proofs.YtpmieapgbdbabaaDoorW.PrintWords
end

section
namespace Go.Proofs.YtpmieapgbdbabaaDoorW.PrintWords
open Go.RowKit
section
variable {w w' u : World} {m B g : Nat} {o : Obj} {row : Option Nat} {S : Nat → Prop} {a : Addr} {v : Value}
end
namespace Kd
section
variable {α : Type} {d : Kd α} {e base n m : Nat} {ok : Nat → Prop} {w w' : World} {v : Value} {A : Option Addr} {xs : List α}
end
end Kd
end Go.Proofs.YtpmieapgbdbabaaDoorW.PrintWords
end

section
namespace Go.Proofs.YtpmieapgbdbabaaDoorW.PrintWords
open Go.RowKit
section
variable {P : Program} {d : Nat} {xs ys : Array Value} {f : Field} {fs : List Field} {a b : Value} {r s : Bool} {w : World}
/-- The last field that counts. -/
theorem eqf_last (hn : (f.name == "_") = false) (ha : (part f.type xs f.offset).run P w = .ok a w) (hb : (part f.type ys f.offset).run P w = .ok b w) (he : (Op.equalIn d f.type a b).run P w = .ok r w) : (Op.eqFields d xs ys [f]).run P w = .ok r w := by
  have hn' : f.name ≠ "_" := by simpa using hn
  simp only [Op.eqFields, if_pos hn', Sem.run_bind, ha, hb, he, Result.andThen_ok]
  cases r <;> simp
theorem eqf_cons (hn : (f.name == "_") = false) (ha : (part f.type xs f.offset).run P w = .ok a w) (hb : (part f.type ys f.offset).run P w = .ok b w) (he : (Op.equalIn d f.type a b).run P w = .ok r w) (hr : (Op.eqFields d xs ys fs).run P w = .ok s w) : (Op.eqFields d xs ys (f :: fs)).run P w = .ok (r && s) w := by
  have hn' : f.name ≠ "_" := by simpa using hn
  rw [Op.eqFields]
  simp only [if_pos hn', Sem.run_bind, ha, hb, he, Result.andThen_ok]
  cases r
  · simp
  · simpa using hr
theorem eqA_of {t : TypeId} {fs : Array Field} (hu : P.underlying t = some (.struct fs)) (hp : P.stoodInHeld t = false) (h : (Op.eqFields d xs ys fs.toList).run P w = .ok r w) : (Op.equalIn (d + 1) t (.agg xs) (.agg ys)).run P w = .ok r w := by
  have hf : P.fieldsOf t = fs := by simp [Program.fieldsOf, hu]
  rw [run_equalIn_struct (P := P) w d t xs ys (by rw [hf]; exact hu) hp, hf]
  exact h
end
end Go.Proofs.YtpmieapgbdbabaaDoorW.PrintWords
end

section
namespace Go.Proofs.YtpmieapgbdbabaaDoorW.PrintWords
/-- One cell an element. -/
theorem Reps.one {α : Type} {R : α → List Value → Prop} {ps : List α} {cs : List Value} {p : α} {v : Value} (hp : R p [v]) (h : Reps R 1 ps cs) : Reps R 1 (p :: ps) (v :: cs) := by
  refine ⟨by simp [h.1], fun j q hq => ?_⟩
  cases j with
  | zero =>
    simp only [List.getElem?_cons_zero, Option.some.injEq] at hq
    subst hq
    simpa using hp
  | succ j =>
    simp only [List.getElem?_cons_succ] at hq
    have h1 := h.2 j q hq
    simpa [Nat.mul_one] using h1
/-- More cells an element: told apart by the cells' list. -/
theorem Reps.front {α : Type} {R : α → List Value → Prop} {size : Nat} {ps : List α} {cs c all : List Value} {p : α} (hp : R p c) (hc : c.length = size) (h : Reps R size ps cs) (ha : c ++ cs = all) : Reps R size (p :: ps) all := by
  subst ha
  refine ⟨by rw [List.length_append, hc, h.1, List.length_cons, Nat.succ_mul, Nat.add_comm], fun j q hq => ?_⟩
  cases j with
  | zero =>
    simp only [List.getElem?_cons_zero, Option.some.injEq] at hq
    subst hq
    rw [Nat.zero_mul, List.drop_zero, List.take_append_of_le_length (by omega), List.take_of_length_le (by omega)]
    exact hp
  | succ j =>
    simp only [List.getElem?_cons_succ] at hq
    have h1 := h.2 j q hq
    rw [Nat.succ_mul, List.drop_append, List.drop_of_length_le (by rw [hc]; exact Nat.le_add_left _ _), List.nil_append, hc, Nat.add_sub_cancel]
    exact h1
theorem Reps.c2 {α : Type} {R : α → List Value → Prop} {ps : List α} {cs : List Value} {p : α} {va vb : Value} (hp : R p [va, vb]) (h : Reps R 2 ps cs) : Reps R 2 (p :: ps) (va :: vb :: cs) := Reps.front hp rfl h rfl
theorem Reps.c3 {α : Type} {R : α → List Value → Prop} {ps : List α} {cs : List Value} {p : α} {va vb vc : Value} (hp : R p [va, vb, vc]) (h : Reps R 3 ps cs) : Reps R 3 (p :: ps) (va :: vb :: vc :: cs) := Reps.front hp rfl h rfl
theorem Reps.c4 {α : Type} {R : α → List Value → Prop} {ps : List α} {cs : List Value} {p : α} {va vb vc vd : Value} (hp : R p [va, vb, vc, vd]) (h : Reps R 4 ps cs) : Reps R 4 (p :: ps) (va :: vb :: vc :: vd :: cs) := Reps.front hp rfl h rfl
theorem Reps.c5 {α : Type} {R : α → List Value → Prop} {ps : List α} {cs : List Value} {p : α} {va vb vc vd ve : Value} (hp : R p [va, vb, vc, vd, ve]) (h : Reps R 5 ps cs) : Reps R 5 (p :: ps) (va :: vb :: vc :: vd :: ve :: cs) := Reps.front hp rfl h rfl
theorem Reps.c6 {α : Type} {R : α → List Value → Prop} {ps : List α} {cs : List Value} {p : α} {va vb vc vd ve vf : Value} (hp : R p [va, vb, vc, vd, ve, vf]) (h : Reps R 6 ps cs) : Reps R 6 (p :: ps) (va :: vb :: vc :: vd :: ve :: vf :: cs) := Reps.front hp rfl h rfl
theorem Reps.c7 {α : Type} {R : α → List Value → Prop} {ps : List α} {cs : List Value} {p : α} {va vb vc vd ve vf vg : Value} (hp : R p [va, vb, vc, vd, ve, vf, vg]) (h : Reps R 7 ps cs) : Reps R 7 (p :: ps) (va :: vb :: vc :: vd :: ve :: vf :: vg :: cs) := Reps.front hp rfl h rfl
theorem Reps.c8 {α : Type} {R : α → List Value → Prop} {ps : List α} {cs : List Value} {p : α} {va vb vc vd ve vf vg vh : Value} (hp : R p [va, vb, vc, vd, ve, vf, vg, vh]) (h : Reps R 8 ps cs) : Reps R 8 (p :: ps) (va :: vb :: vc :: vd :: ve :: vf :: vg :: vh :: cs) := Reps.front hp rfl h rfl
theorem Reps.c9 {α : Type} {R : α → List Value → Prop} {ps : List α} {cs : List Value} {p : α} {va vb vc vd ve vf vg vh vi : Value} (hp : R p [va, vb, vc, vd, ve, vf, vg, vh, vi]) (h : Reps R 9 ps cs) : Reps R 9 (p :: ps) (va :: vb :: vc :: vd :: ve :: vf :: vg :: vh :: vi :: cs) := Reps.front hp rfl h rfl
theorem Reps.c10 {α : Type} {R : α → List Value → Prop} {ps : List α} {cs : List Value} {p : α} {va vb vc vd ve vf vg vh vi vj : Value} (hp : R p [va, vb, vc, vd, ve, vf, vg, vh, vi, vj]) (h : Reps R 10 ps cs) : Reps R 10 (p :: ps) (va :: vb :: vc :: vd :: ve :: vf :: vg :: vh :: vi :: vj :: cs) := Reps.front hp rfl h rfl
end Go.Proofs.YtpmieapgbdbabaaDoorW.PrintWords
end

section
namespace Go.Proofs.YtpmieapgbdbabaaDoorW.PrintLast
/-- Number i is listed too. -/
def up (b : Nat → Bool) (i : Nat) : Nat → Bool := fun j => if j = i then true else b j
section
variable {P : Program} {ops : Array Oper} {Q : Exit → Act → World → Prop} {md : Region.Mode} {T : Bool × List (List Nat × List Nat)} {B : List Nat} {O : List Nat} {b : Nat → Bool} {i j n : Nat}
end
end Go.Proofs.YtpmieapgbdbabaaDoorW.PrintLast
end

section
namespace Go.Proofs.YtpmieapgbdbabaaDoorW.PrintWords
open Go.RowKit
end Go.Proofs.YtpmieapgbdbabaaDoorW.PrintWords
namespace Go.Proofs.YtpmieapgbdbabaaDoorW.PrintLast
section
variable {ops : Array Oper} {a : Act} {o og : Oper} {g : Nat} {t : Tmp} {u : Bool}
end
end Go.Proofs.YtpmieapgbdbabaaDoorW.PrintLast
end

section
namespace Go.Proofs.YtpmieapgbdbabaaDoorW.PrintWords
open Go.RowKit
section
variable {P : Program} {ops : Array Oper} {rest : List Oper} {o : Oper} {a : Act} {Q : Exit → Act → World → Prop} {W : World}
/-- The gate takes the guard off (hw: 'by rfl', 'by kernel_rfl': the guard's slot holds what is wanted). -/
theorem gate_guard (hw : Region.wanted o (yielded ops a.tmps) = true) (h : wpList P ops Q ({ o with guard := none } :: rest) a W) : wpList P ops Q (o :: rest) a W := by
  have h1 : Region.wanted { o with guard := none } (yielded ops a.tmps) = true := rfl
  unfold wpList at h ⊢
  rw [if_pos h1] at h
  rw [if_pos hw]
  exact h
end
end Go.Proofs.YtpmieapgbdbabaaDoorW.PrintWords
end

section
namespace Go.Proofs.YtpmieapgbdbabaaDoorW.PrintWords
open Go.RowKit
namespace Kd
section
variable {α : Type} {d : Kd α} {e base n cap g : Nat} {ok ok' okp : Nat → Prop} {w w1 W : World} {v v1 : Value} {xs ys : List α}
end
section
variable {P : Program} {ops : Array Oper} {rest : List Oper} {o : Oper} {a : Act} {Q : Exit → Act → World → Prop} {Kc : Act → World → Prop} {α : Type}
end
end Kd
end Go.Proofs.YtpmieapgbdbabaaDoorW.PrintWords
end

section
namespace Go.Proofs.YtpmieapgbdbabaaDoorW.PrintMore
open Go.RowKit Go.Proofs.YtpmieapgbdbabaaDoorW.PrintWords
namespace Kd
open Go.Proofs.YtpmieapgbdbabaaDoorW.PrintWords.Kd
end Kd

namespace Kd
open Go.Proofs.YtpmieapgbdbabaaDoorW.PrintWords.Kd
section
variable {α : Type} {d : Kd α} {e base g N : Nat} {ok : Nat → Prop} {W w1 : World} {u v : Value} {xs : List α}
end
end Kd
end Go.Proofs.YtpmieapgbdbabaaDoorW.PrintMore
namespace Go.Proofs.YtpmieapgbdbabaaDoorW.PrintWords
open Go.RowKit
section
variable {P : Program} {ops : Array Oper} {rest : List Oper} {o : Oper} {a : Act} {Q : Exit → Act → World → Prop} {W : World}
/-- The operation is a call of this function (a cheap look ahead of a dear step). -/
theorem gate_callee {f : FuncId} {as1_ : Array Operand} {ts : Array TypeId} (_ho : o.op = .call { callee := .value (.func f), args := as1_, argTypes := ts }) (h : wpList P ops Q (o :: rest) a W) : wpList P ops Q (o :: rest) a W := h
end
/-- The greater of two whole numbers, as1_ Go's max tells it. -/
def mx (a b : Int) : Int := if a < b then b else a
namespace Kd
section
variable {α : Type} {d : Kd α} {e base : Nat} {ok : Nat → Prop} {W w1 : World} {v : Value} {xs : List α}
end
section
variable {α : Type} {d : Kd α} {e base g n cap : Nat} {ok oki okp : Nat → Prop} {W : World} {xs : List α} {i : Int} {c : List Value}
end
section
variable {α : Type} {d : Kd α} {e base b b' g N : Nat} {ok ok1 : Nat → Prop} {W W2 w1 : World} {u v : Value} {xs ys : List α} {S : Nat → Prop}
end
end Kd
end Go.Proofs.YtpmieapgbdbabaaDoorW.PrintWords
namespace Go.Proofs.YtpmieapgbdbabaaDoorW.PrintWords
open Go.RowKit
namespace Kd
section
variable {α β : Type} {d : Kd α} {e base base' n m c g N' lo hi : Nat} {ok ok' S : Nat → Prop} {w W w1 : World} {A : Option Addr} {ad : Addr} {u v v1 : Value} {xs : List α}
end
end Kd
end Go.Proofs.YtpmieapgbdbabaaDoorW.PrintWords
end

section
/- Walks, written by a program of this session (wip/pp): a Go function comes to what the Lean function beside it tells. -/
namespace Go.Proofs.YtpmieapgbdbabaaDoor.QAll
open Go.RowKit Go.Proofs.YtpmieapgbdbabaaDoorW.PrintWords Go.Proofs.YtpmieapgbdbabaaDoorW.PrintLast Go.Proofs.YtpmieapgbdbabaaDoorW.PrintMore
set_option linter.unusedVariables false
set_option linter.unusedSimpArgs false



def errW : Option Int → Value
 | none => .nilIface
 | some c => .iface 157 (.int .i64 c)
theorem errW_none : errW none = .nilIface := rfl
theorem errW_some (c : Int) : errW (some c) = .iface 157 (.int .i64 c) := rfl

structure S23 where
 f0 : ByteArray
 f1 : Int
def z23 : S23 := ⟨(⟨#[]⟩ : ByteArray), (0 : Int)⟩
def k23 : Kd S23 := Kd.iso (Kd.pair Kd.string (Kd.int .i64)) (fun x : S23 => (x.f0, x.f1))
theorem k23_open {w : World} {x : S23} {cs : List Value} (h : k23.K w x cs) : cs = [.string x.f0, .int .i64 x.f1] := by
 obtain ⟨_, _, rfl, rfl, rfl⟩ := h
 exact rfl
theorem k23_mk (w : World) (x : S23)  : k23.K w x [.string x.f0, .int .i64 x.f1] := ⟨[.string x.f0], [.int .i64 x.f1], rfl, rfl, rfl⟩
def rd_T23 (xs : List S23) (i : Int) : S23 := xs.getD i.toNat z23
theorem at_T23 {w : World} {A : Option Addr} {n : Nat} {xs : List S23} (h : Kd.C k23 w A n xs) (i : Int) (h0 : 0 ≤ i) (h1 : i < n) : ∃ ad , A = some ad ∧ w.cell? (ad.add (i.toNat * 2)) = some (.string (rd_T23 xs i).f0) ∧ w.cell? ⟨(ad.add (i.toNat * 2)).block, (ad.add (i.toNat * 2)).off + 1, none⟩ = some (.int .i64 (rd_T23 xs i).f1) := by
 obtain ⟨ad, c, e, _, hK, hc0⟩ := Kd.C_get h z23 i h0 h1
 have hc : ∀ j u, c[j]? = some u → w.cell? (ad.add (i.toNat * 2 + j)) = some u := hc0
 obtain rfl := k23_open hK
 exact ⟨ad, e, hc 0 _ rfl, by rw [← add_field _ _ 1 (by omega)]; exact hc 1 _ rfl⟩

structure S93 where
 f0 : S23
 f1 : Bool
structure S26 where
 f0 : S23
 f1 : S23
 f2 : Bool
 f3 : Bool
 f4 : (List S93)
structure S37 where
 f0 : S23
 f1 : Bool
def z37 : S37 := ⟨z23, false⟩
end Go.Proofs.YtpmieapgbdbabaaDoor.QAll
end

section
/- Walks, written by a program of this session (wip/pp): a Go function comes to what the Lean function beside it tells. -/
namespace Go.Proofs.YtpmieapgbdbabaaDoor.QAll
open Go.RowKit Go.Proofs.YtpmieapgbdbabaaDoorW.PrintWords Go.Proofs.YtpmieapgbdbabaaDoorW.PrintLast Go.Proofs.YtpmieapgbdbabaaDoorW.PrintMore
set_option linter.unusedVariables false
set_option linter.unusedSimpArgs false

theorem eqA23 (d : Nat) (w : World) (x0 y0 : ByteArray) (x1 y1 : Int) :
  (Op.equalIn (d + 2) 23 (.agg #[.string x0, .int .i64 x1]) (.agg #[.string y0, .int .i64 y1])).run Tryd.prog w = .ok (x0.toList == y0.toList && (x1 == y1)) w := by
 refine eqA_of Tryd.underlying23 (by kernel_rfl) ?_
 refine eqf_cons (by rfl) (by go_simp; rfl) (by go_simp; rfl) (by go_simp) ?_
 exact eqf_last (by rfl) (by go_simp; rfl) (by go_simp; rfl) (by go_simp)
end Go.Proofs.YtpmieapgbdbabaaDoor.QAll
end

section
/- Walks, written by a program of this session (wip/pp): a Go function comes to what the Lean function beside it tells. -/
namespace Go.Proofs.YtpmieapgbdbabaaDoor.QAll
open Go.RowKit Go.Proofs.YtpmieapgbdbabaaDoorW.PrintWords Go.Proofs.YtpmieapgbdbabaaDoorW.PrintLast Go.Proofs.YtpmieapgbdbabaaDoorW.PrintMore
set_option linter.unusedVariables false
set_option linter.unusedSimpArgs false

mutual
def squelchref04_Right.j0 : Nat → Bool → ByteArray → Int → Option (Bool)
 | 0, _, _, _ => none
 | k + 1, x24, x274000, x274001 => if x24 = true then (some false) else (squelchref04_Right.l0 k 0 x274000 x274001)
def squelchref04_Right.l0 : Nat → Int → ByteArray → Int → Option (Bool)
 | 0, _, _, _ => none
 | k + 1, x3, x274000, x274001 => if x3 < (x274000.size : Int) then (if 0 ≤ x3 then (if (bt x274000 x3) ≥ 65 then (if (bt x274000 x3) ≤ 90 then (squelchref04_Right.l0 k (wrap64 (x3 + 1)) x274000 x274001) else (if (bt x274000 x3) ≥ 48 then (if ((bt x274000 x3) ≤ 57) then (squelchref04_Right.l0 k (wrap64 (x3 + 1)) x274000 x274001) else (some false)) else (some false))) else (if (bt x274000 x3) ≥ 48 then (if ((bt x274000 x3) ≤ 57) then (squelchref04_Right.l0 k (wrap64 (x3 + 1)) x274000 x274001) else (some false)) else (some false))) else (none)) else (some true)
end
def squelchref04_Right.f (k : Nat) (a0_0 : ByteArray) (a0_1 : Int) : Option (Bool) := if (a0_0.size : Int) < 1 then (squelchref04_Right.j0 k true a0_0 a0_1) else (if (a0_0.size : Int) > 6 then (squelchref04_Right.j0 k true a0_0 a0_1) else (if a0_1 < 0 then (squelchref04_Right.j0 k true a0_0 a0_1) else (squelchref04_Right.j0 k (decide (a0_1 > 15)) a0_0 a0_1)))
set_option maxHeartbeats 8000000 in
set_option maxRecDepth 100000 in
theorem squelchref04_Right.calls (k : Nat) (a0_0 : ByteArray) (a0_1 : Int) (r : Bool) (w : World) (h : squelchref04_Right.f k a0_0 a0_1 = some r) :
  Calls Tryd.prog 39 #[.agg #[.string a0_0, .int .i64 a0_1]] w fun e w' => e = .returned (.bool r) ∧ Below w.heap.size w w' := by
 have hu23 := Tryd.underlying23
 have HB := Aside0.mk (Below.refl w.heap.size w)
 have H : (if (a0_0.size : Int) < 1 then (squelchref04_Right.j0 k true a0_0 a0_1) else (if (a0_0.size : Int) > 6 then (squelchref04_Right.j0 k true a0_0 a0_1) else (if a0_1 < 0 then (squelchref04_Right.j0 k true a0_0 a0_1) else (squelchref04_Right.j0 k (decide (a0_1 > 15)) a0_0 a0_1)))) = some r := h
 clear h
 have HC2 := Aside0.mk H
 clear H
 go_enter Tryd.func39, Tryd.ntmps39
 go_upto_region 1 with (first | ((with_reducible refine gate_dst (N := 1) rfl ?_); (try (refine gate_guard (by rfl) ?_; dsimp only)); refine box_event ?hg (N := 1) ?hd (cs := #[.string a0_0, .int .i64 a0_1]) (t := 23) ?hr ?_; (case hd => rfl); (case hg => rfl); (case hr => first | (go_simp; done) | (go_simp; rfl)); intro gb273 hg w3 hbox hb; have n0_ := Aside0.mk (below_step (by repeat (first | (with_reducible first | exact HB.out | apply below_alloc | apply pw_below_drewN | apply below_drew1) | exact HB.out)) hb); have n1_ := Aside0.mk (hbox); have n2_ := Aside0.mk ((by rw [hg]; exact (below_size (by repeat (first | (with_reducible first | exact HB.out | apply below_alloc | apply pw_below_drewN | apply below_drew1) | exact HB.out))) : w.heap.size ≤ gb273)); have n3_ := Aside0.mk ((by rw [hg]; exact (below_size (by repeat (first | (with_reducible first | exact HB.out | apply below_alloc | apply pw_below_drewN | apply below_drew1) | exact HB.out))) : w.heap.size ≤ gb273)); clear HB; have HB := n0_; have BK273 := n1_; have GW273 := n2_; have GE273 := n3_; clear n0_ n1_ n2_ n3_; clear hb hbox hg))
 (try simp only [Act.put, List.setIfInBounds_toArray, List.set_cons_zero, List.set_cons_succ])
 go_cut [24] (fun v24 wc => ∃ (kq : Nat) (x24_1 : Bool), v24 = .bool x24_1 ∧ Aside0 (squelchref04_Right.j0 kq x24_1 a0_0 a0_1 = some r) ∧ Aside0 (kq ≤ k) ∧ Aside0 (wc.heap[gb273]? = some (.cells #[.string a0_0, .int .i64 a0_1] 23 (0, 0))) ∧ Aside0 (Below w.heap.size w wc))
 case first =>
  have H := HC2.out
  clear HC2
  by_cases c4 : (a0_0.size : Int) < 1
  ·rw [if_pos c4] at H
   have c4b0 : decide ((a0_0.size : Int) < 1) = true := decide_eq_true c4
   have c4b1 : decide (a0_0.size < 1) = true := decide_eq_true (by omega)
   clear c4
   (first | rw [c4b0] | (simp only [i64_w, i32_w]; rw [c4b0]) | skip)
   have H' := Aside0.mk H
   clear H
   have hcz5_0 : w3.cell? ⟨gb273, 0, none⟩ = some (.string a0_0) := (blk_cell BK273.out 0).trans rfl
   have hcz5_1 : w3.cell? ⟨gb273, 1, none⟩ = some (.int .i64 a0_1) := (blk_cell BK273.out 1).trans rfl
   have hfz5_0 := blk_frozen BK273.out 0
   have hfz5_1 := blk_frozen BK273.out 1
   go_wp2
   go_meet
   case rel => exact ⟨_, (true), (by first | rfl | (simp; done) | (simp [*]; done) | (simp; exact (fun l : List UInt8 => (by cases l <;> rfl : l.isEmpty = !(l != []))) _)), H', ⟨by first | omega | exact Nat.le_refl _⟩, ⟨by (with_reducible repeat (first | refine blk_drewN ?_ _ | refine blk_drew ?_ | refine blk_alloc ?_ _)); exact BK273.out⟩, ⟨by repeat (first | (with_reducible first | exact HB.out | apply below_alloc | apply pw_below_drewN | apply below_drew1 | refine below_set ?_ GE273.out) | exact HB.out)⟩⟩
  ·rw [if_neg c4] at H
   have c4b0 : decide ((a0_0.size : Int) < 1) = false := decide_eq_false c4
   have c4b1 : decide (a0_0.size < 1) = false := decide_eq_false (by omega)
   clear c4
   (first | rw [c4b0] | (simp only [i64_w, i32_w]; rw [c4b0]) | skip)
   by_cases c6 : (a0_0.size : Int) > 6
   ·rw [if_pos c6] at H
    have c6b0 : decide (6 < (a0_0.size : Int)) = true := decide_eq_true c6
    have c6b1 : decide (6 < a0_0.size) = true := decide_eq_true (by omega)
    clear c6
    have H' := Aside0.mk H
    clear H
    have hcz7_0 : w3.cell? ⟨gb273, 0, none⟩ = some (.string a0_0) := (blk_cell BK273.out 0).trans rfl
    have hcz7_1 : w3.cell? ⟨gb273, 1, none⟩ = some (.int .i64 a0_1) := (blk_cell BK273.out 1).trans rfl
    have hfz7_0 := blk_frozen BK273.out 0
    have hfz7_1 := blk_frozen BK273.out 1
    go_wp2
    go_meet
    case rel => exact ⟨_, (true), (by first | rfl | (simp; done) | (simp [*]; done) | (simp; exact (fun l : List UInt8 => (by cases l <;> rfl : l.isEmpty = !(l != []))) _)), H', ⟨by first | omega | exact Nat.le_refl _⟩, ⟨by (with_reducible repeat (first | refine blk_drewN ?_ _ | refine blk_drew ?_ | refine blk_alloc ?_ _)); exact BK273.out⟩, ⟨by repeat (first | (with_reducible first | exact HB.out | apply below_alloc | apply pw_below_drewN | apply below_drew1 | refine below_set ?_ GE273.out) | exact HB.out)⟩⟩
   ·rw [if_neg c6] at H
    have c6b0 : decide (6 < (a0_0.size : Int)) = false := decide_eq_false c6
    have c6b1 : decide (6 < a0_0.size) = false := decide_eq_false (by omega)
    clear c6
    by_cases c8 : a0_1 < 0
    ·rw [if_pos c8] at H
     have c8b0 : decide (a0_1 < 0) = true := decide_eq_true c8
     clear c8
     have H' := Aside0.mk H
     clear H
     have hcz9_0 : w3.cell? ⟨gb273, 0, none⟩ = some (.string a0_0) := (blk_cell BK273.out 0).trans rfl
     have hcz9_1 : w3.cell? ⟨gb273, 1, none⟩ = some (.int .i64 a0_1) := (blk_cell BK273.out 1).trans rfl
     have hfz9_0 := blk_frozen BK273.out 0
     have hfz9_1 := blk_frozen BK273.out 1
     go_wp2
     go_meet
     case rel => exact ⟨_, (true), (by first | rfl | (simp; done) | (simp [*]; done) | (simp; exact (fun l : List UInt8 => (by cases l <;> rfl : l.isEmpty = !(l != []))) _)), H', ⟨by first | omega | exact Nat.le_refl _⟩, ⟨by (with_reducible repeat (first | refine blk_drewN ?_ _ | refine blk_drew ?_ | refine blk_alloc ?_ _)); exact BK273.out⟩, ⟨by repeat (first | (with_reducible first | exact HB.out | apply below_alloc | apply pw_below_drewN | apply below_drew1 | refine below_set ?_ GE273.out) | exact HB.out)⟩⟩
    ·rw [if_neg c8] at H
     have c8b0 : decide (a0_1 < 0) = false := decide_eq_false c8
     clear c8
     have H' := Aside0.mk H
     clear H
     have hcz10_0 : w3.cell? ⟨gb273, 0, none⟩ = some (.string a0_0) := (blk_cell BK273.out 0).trans rfl
     have hcz10_1 : w3.cell? ⟨gb273, 1, none⟩ = some (.int .i64 a0_1) := (blk_cell BK273.out 1).trans rfl
     have hfz10_0 := blk_frozen BK273.out 0
     have hfz10_1 := blk_frozen BK273.out 1
     go_wp2
     go_meet
     case rel => exact ⟨_, (decide (a0_1 > 15)), (by first | rfl | (simp; done) | (simp [*]; done) | (simp; exact (fun l : List UInt8 => (by cases l <;> rfl : l.isEmpty = !(l != []))) _)), H', ⟨by first | omega | exact Nat.le_refl _⟩, ⟨by (with_reducible repeat (first | refine blk_drewN ?_ _ | refine blk_drew ?_ | refine blk_alloc ?_ _)); exact BK273.out⟩, ⟨by repeat (first | (with_reducible first | exact HB.out | apply below_alloc | apply pw_below_drewN | apply below_drew1 | refine below_set ?_ GE273.out) | exact HB.out)⟩⟩
 case rest =>
  clear HC2
  try clear p2
  try clear c3
  try clear c4
  try clear c4b0
  try clear c4b1
  try clear c6
  try clear c6b0
  try clear c6b1
  try clear c8
  try clear c8b0
  try clear hcz10_0
  try clear hcz10_1
  try clear hcz5_0
  try clear hcz5_1
  try clear hcz7_0
  try clear hcz7_1
  try clear hcz9_0
  try clear hcz9_1
  try clear hfz10_0
  try clear hfz10_1
  try clear hfz5_0
  try clear hfz5_1
  try clear hfz7_0
  try clear hfz7_1
  try clear hfz9_0
  try clear hfz9_1
  obtain ⟨kq, x24_1, rfl, HA, HJ1, BK273, HB⟩ := hcut
  cases kq with
  | zero => exact absurd HA.out (by simp [squelchref04_Right.j0])
  | succ kj1 =>
   have H := HA.out
   clear HA
   simp only [squelchref04_Right.j0] at H
   by_cases c11 : x24_1 = true
   ·subst c11
    have H1 : (some false) = some r := by rw [if_pos rfl] at H; exact H
    clear H
    have H := H1
    clear H1
    obtain rfl := Option.some.inj H
    go_wp2
    go_ret
    exact ⟨by first | rfl | (simp [errW_none, errW_some] <;> rfl) | (simp [*, errW_none, errW_some] <;> rfl), by repeat (first | (with_reducible first | exact HB.out | apply below_alloc | apply pw_below_drewN | apply below_drew1 | refine below_set ?_ GE273.out) | exact HB.out)⟩
   ·replace c11 := Bool.eq_false_iff.mpr c11
    subst c11
    have H1 : (squelchref04_Right.l0 kj1 0 a0_0 a0_1) = some r := by rw [if_neg (show ¬ (false = true) by decide)] at H; exact H
    clear H
    have H := H1
    clear H1
    have H' := Aside0.mk H
    clear H
    go_wp2
    go_loopg [3] kj1 (fun kq v3 w' => ∃ (x3_2 : Int), v3 = .int .i64 x3_2 ∧ Aside0 (squelchref04_Right.l0 kq x3_2 a0_0 a0_1 = some r) ∧ Aside0 (kq ≤ kj1) ∧ Aside0 (w'.heap[gb273]? = some (.cells #[.string a0_0, .int .i64 a0_1] 23 (0, 0))) ∧ Aside0 (Below w.heap.size w w'))
    case atStart => exact ⟨(0), (by first | rfl | (simp; done) | (simp [*]; done) | (simp; exact (fun l : List UInt8 => (by cases l <;> rfl : l.isEmpty = !(l != []))) _)), H', ⟨Nat.le_refl _⟩, ⟨by (with_reducible repeat (first | refine blk_drewN ?_ _ | refine blk_drew ?_ | refine blk_alloc ?_ _)); exact BK273.out⟩, ⟨by repeat (first | (with_reducible first | exact HB.out | apply below_alloc | apply pw_below_drewN | apply below_drew1 | refine below_set ?_ GE273.out) | exact HB.out)⟩⟩
    case round =>
     clear H'
     try clear c1
     try clear p2
     try clear c3
     try clear c4
     try clear c4b0
     try clear c4b1
     try clear c6
     try clear c6b0
     try clear c6b1
     try clear c8
     try clear c8b0
     try clear c11
     try clear hcz10_0
     try clear hcz10_1
     try clear hcz5_0
     try clear hcz5_1
     try clear hcz7_0
     try clear hcz7_1
     try clear hcz9_0
     try clear hcz9_1
     try clear hfz10_0
     try clear hfz10_1
     try clear hfz5_0
     try clear hfz5_1
     try clear hfz7_0
     try clear hfz7_1
     try clear hfz9_0
     try clear hfz9_1
     try clear p2
     obtain ⟨x3_2, rfl, HA, HK2, BK273, HB⟩ := hrel
     cases gk with
     | zero => exact absurd HA.out (by simp [squelchref04_Right.l0])
     | succ k2 =>
      have H := HA.out
      clear HA
      simp only [squelchref04_Right.l0] at H
      by_cases c12 : x3_2 < (a0_0.size : Int)
      ·rw [if_pos c12] at H
       have c12b0 : decide (x3_2 < (a0_0.size : Int)) = true := decide_eq_true c12
       clear c12
       by_cases c13 : 0 ≤ x3_2
       ·rw [if_pos c13] at H
        have c13b0 : decide (0 ≤ x3_2) = true := decide_eq_true c13
        clear c13
        by_cases c15 : (bt a0_0 x3_2) ≥ 65
        ·rw [if_pos c15] at H
         have c15b0 : decide (65 ≤ (bt a0_0 x3_2)) = true := decide_eq_true c15
         clear c15
         by_cases c16 : (bt a0_0 x3_2) ≤ 90
         ·rw [if_pos c16] at H
          have c16b0 : decide ((bt a0_0 x3_2) ≤ 90) = true := decide_eq_true c16
          clear c16
          have H' := Aside0.mk H
          clear H
          have hcz17_0 : wr.cell? ⟨gb273, 0, none⟩ = some (.string a0_0) := (blk_cell BK273.out 0).trans rfl
          have hcz17_1 : wr.cell? ⟨gb273, 1, none⟩ = some (.int .i64 a0_1) := (blk_cell BK273.out 1).trans rfl
          have hfz17_0 := blk_frozen BK273.out 0
          have hfz17_1 := blk_frozen BK273.out 1
          have p14 : 0 ≤ (x3_2 : Int) := of_decide_eq_true (by first | (with_reducible assumption) | assumption)
          have q14 : x3_2 < (a0_0.size : Int) := of_decide_eq_true (by first | (with_reducible assumption) | assumption)
          have hx14 := bt_at a0_0 x3_2
          replace p14 := eq_true p14
          replace q14 := eq_true q14
          go_wp2
          go_roundg k2
          case measure => have := HJ1.out; have := HK2.out; omega
          case rel => exact ⟨(wrap64 (x3_2 + 1)), (by first | rfl | (simp; done) | (simp [*]; done) | (simp; exact (fun l : List UInt8 => (by cases l <;> rfl : l.isEmpty = !(l != []))) _)), H', ⟨by have := HJ1.out; have := HK2.out; omega⟩, ⟨by (with_reducible repeat (first | refine blk_drewN ?_ _ | refine blk_drew ?_ | refine blk_alloc ?_ _)); exact BK273.out⟩, ⟨by repeat (first | (with_reducible first | exact HB.out | apply below_alloc | apply pw_below_drewN | apply below_drew1 | refine below_set ?_ GE273.out) | exact HB.out)⟩⟩
         ·rw [if_neg c16] at H
          have c16b0 : decide ((bt a0_0 x3_2) ≤ 90) = false := decide_eq_false c16
          clear c16
          by_cases c18 : (bt a0_0 x3_2) ≥ 48
          ·rw [if_pos c18] at H
           have c18b0 : decide (48 ≤ (bt a0_0 x3_2)) = true := decide_eq_true c18
           clear c18
           by_cases c19 : ((bt a0_0 x3_2) ≤ 57)
           ·rw [if_pos c19] at H
            have c19b0 : decide ((bt a0_0 x3_2) ≤ 57) = true := decide_eq_true c19
            clear c19
            have H' := Aside0.mk H
            clear H
            have hcz20_0 : wr.cell? ⟨gb273, 0, none⟩ = some (.string a0_0) := (blk_cell BK273.out 0).trans rfl
            have hcz20_1 : wr.cell? ⟨gb273, 1, none⟩ = some (.int .i64 a0_1) := (blk_cell BK273.out 1).trans rfl
            have hfz20_0 := blk_frozen BK273.out 0
            have hfz20_1 := blk_frozen BK273.out 1
            have p14 : 0 ≤ (x3_2 : Int) := of_decide_eq_true (by first | (with_reducible assumption) | assumption)
            have q14 : x3_2 < (a0_0.size : Int) := of_decide_eq_true (by first | (with_reducible assumption) | assumption)
            have hx14 := bt_at a0_0 x3_2
            replace p14 := eq_true p14
            replace q14 := eq_true q14
            go_wp2
            go_roundg k2
            case measure => have := HJ1.out; have := HK2.out; omega
            case rel => exact ⟨(wrap64 (x3_2 + 1)), (by first | rfl | (simp; done) | (simp [*]; done) | (simp; exact (fun l : List UInt8 => (by cases l <;> rfl : l.isEmpty = !(l != []))) _)), H', ⟨by have := HJ1.out; have := HK2.out; omega⟩, ⟨by (with_reducible repeat (first | refine blk_drewN ?_ _ | refine blk_drew ?_ | refine blk_alloc ?_ _)); exact BK273.out⟩, ⟨by repeat (first | (with_reducible first | exact HB.out | apply below_alloc | apply pw_below_drewN | apply below_drew1 | refine below_set ?_ GE273.out) | exact HB.out)⟩⟩
           ·rw [if_neg c19] at H
            have c19b0 : decide ((bt a0_0 x3_2) ≤ 57) = false := decide_eq_false c19
            clear c19
            obtain rfl := Option.some.inj H
            have hcz21_0 : wr.cell? ⟨gb273, 0, none⟩ = some (.string a0_0) := (blk_cell BK273.out 0).trans rfl
            have hcz21_1 : wr.cell? ⟨gb273, 1, none⟩ = some (.int .i64 a0_1) := (blk_cell BK273.out 1).trans rfl
            have hfz21_0 := blk_frozen BK273.out 0
            have hfz21_1 := blk_frozen BK273.out 1
            have p14 : 0 ≤ (x3_2 : Int) := of_decide_eq_true (by first | (with_reducible assumption) | assumption)
            have q14 : x3_2 < (a0_0.size : Int) := of_decide_eq_true (by first | (with_reducible assumption) | assumption)
            have hx14 := bt_at a0_0 x3_2
            replace p14 := eq_true p14
            replace q14 := eq_true q14
            go_wp2
            go_ret
            exact ⟨by first | rfl | (simp [errW_none, errW_some] <;> rfl) | (simp [*, errW_none, errW_some] <;> rfl), by repeat (first | (with_reducible first | exact HB.out | apply below_alloc | apply pw_below_drewN | apply below_drew1 | refine below_set ?_ GE273.out) | exact HB.out)⟩
          ·rw [if_neg c18] at H
           have c18b0 : decide (48 ≤ (bt a0_0 x3_2)) = false := decide_eq_false c18
           clear c18
           obtain rfl := Option.some.inj H
           have hcz22_0 : wr.cell? ⟨gb273, 0, none⟩ = some (.string a0_0) := (blk_cell BK273.out 0).trans rfl
           have hcz22_1 : wr.cell? ⟨gb273, 1, none⟩ = some (.int .i64 a0_1) := (blk_cell BK273.out 1).trans rfl
           have hfz22_0 := blk_frozen BK273.out 0
           have hfz22_1 := blk_frozen BK273.out 1
           have p14 : 0 ≤ (x3_2 : Int) := of_decide_eq_true (by first | (with_reducible assumption) | assumption)
           have q14 : x3_2 < (a0_0.size : Int) := of_decide_eq_true (by first | (with_reducible assumption) | assumption)
           have hx14 := bt_at a0_0 x3_2
           replace p14 := eq_true p14
           replace q14 := eq_true q14
           go_wp2
           go_ret
           exact ⟨by first | rfl | (simp [errW_none, errW_some] <;> rfl) | (simp [*, errW_none, errW_some] <;> rfl), by repeat (first | (with_reducible first | exact HB.out | apply below_alloc | apply pw_below_drewN | apply below_drew1 | refine below_set ?_ GE273.out) | exact HB.out)⟩
        ·rw [if_neg c15] at H
         have c15b0 : decide (65 ≤ (bt a0_0 x3_2)) = false := decide_eq_false c15
         clear c15
         by_cases c23 : (bt a0_0 x3_2) ≥ 48
         ·rw [if_pos c23] at H
          have c23b0 : decide (48 ≤ (bt a0_0 x3_2)) = true := decide_eq_true c23
          clear c23
          by_cases c24 : ((bt a0_0 x3_2) ≤ 57)
          ·rw [if_pos c24] at H
           have c24b0 : decide ((bt a0_0 x3_2) ≤ 57) = true := decide_eq_true c24
           clear c24
           have H' := Aside0.mk H
           clear H
           have hcz25_0 : wr.cell? ⟨gb273, 0, none⟩ = some (.string a0_0) := (blk_cell BK273.out 0).trans rfl
           have hcz25_1 : wr.cell? ⟨gb273, 1, none⟩ = some (.int .i64 a0_1) := (blk_cell BK273.out 1).trans rfl
           have hfz25_0 := blk_frozen BK273.out 0
           have hfz25_1 := blk_frozen BK273.out 1
           have p14 : 0 ≤ (x3_2 : Int) := of_decide_eq_true (by first | (with_reducible assumption) | assumption)
           have q14 : x3_2 < (a0_0.size : Int) := of_decide_eq_true (by first | (with_reducible assumption) | assumption)
           have hx14 := bt_at a0_0 x3_2
           replace p14 := eq_true p14
           replace q14 := eq_true q14
           go_wp2
           go_roundg k2
           case measure => have := HJ1.out; have := HK2.out; omega
           case rel => exact ⟨(wrap64 (x3_2 + 1)), (by first | rfl | (simp; done) | (simp [*]; done) | (simp; exact (fun l : List UInt8 => (by cases l <;> rfl : l.isEmpty = !(l != []))) _)), H', ⟨by have := HJ1.out; have := HK2.out; omega⟩, ⟨by (with_reducible repeat (first | refine blk_drewN ?_ _ | refine blk_drew ?_ | refine blk_alloc ?_ _)); exact BK273.out⟩, ⟨by repeat (first | (with_reducible first | exact HB.out | apply below_alloc | apply pw_below_drewN | apply below_drew1 | refine below_set ?_ GE273.out) | exact HB.out)⟩⟩
          ·rw [if_neg c24] at H
           have c24b0 : decide ((bt a0_0 x3_2) ≤ 57) = false := decide_eq_false c24
           clear c24
           obtain rfl := Option.some.inj H
           have hcz26_0 : wr.cell? ⟨gb273, 0, none⟩ = some (.string a0_0) := (blk_cell BK273.out 0).trans rfl
           have hcz26_1 : wr.cell? ⟨gb273, 1, none⟩ = some (.int .i64 a0_1) := (blk_cell BK273.out 1).trans rfl
           have hfz26_0 := blk_frozen BK273.out 0
           have hfz26_1 := blk_frozen BK273.out 1
           have p14 : 0 ≤ (x3_2 : Int) := of_decide_eq_true (by first | (with_reducible assumption) | assumption)
           have q14 : x3_2 < (a0_0.size : Int) := of_decide_eq_true (by first | (with_reducible assumption) | assumption)
           have hx14 := bt_at a0_0 x3_2
           replace p14 := eq_true p14
           replace q14 := eq_true q14
           go_wp2
           go_ret
           exact ⟨by first | rfl | (simp [errW_none, errW_some] <;> rfl) | (simp [*, errW_none, errW_some] <;> rfl), by repeat (first | (with_reducible first | exact HB.out | apply below_alloc | apply pw_below_drewN | apply below_drew1 | refine below_set ?_ GE273.out) | exact HB.out)⟩
         ·rw [if_neg c23] at H
          have c23b0 : decide (48 ≤ (bt a0_0 x3_2)) = false := decide_eq_false c23
          clear c23
          obtain rfl := Option.some.inj H
          have hcz27_0 : wr.cell? ⟨gb273, 0, none⟩ = some (.string a0_0) := (blk_cell BK273.out 0).trans rfl
          have hcz27_1 : wr.cell? ⟨gb273, 1, none⟩ = some (.int .i64 a0_1) := (blk_cell BK273.out 1).trans rfl
          have hfz27_0 := blk_frozen BK273.out 0
          have hfz27_1 := blk_frozen BK273.out 1
          have p14 : 0 ≤ (x3_2 : Int) := of_decide_eq_true (by first | (with_reducible assumption) | assumption)
          have q14 : x3_2 < (a0_0.size : Int) := of_decide_eq_true (by first | (with_reducible assumption) | assumption)
          have hx14 := bt_at a0_0 x3_2
          replace p14 := eq_true p14
          replace q14 := eq_true q14
          go_wp2
          go_ret
          exact ⟨by first | rfl | (simp [errW_none, errW_some] <;> rfl) | (simp [*, errW_none, errW_some] <;> rfl), by repeat (first | (with_reducible first | exact HB.out | apply below_alloc | apply pw_below_drewN | apply below_drew1 | refine below_set ?_ GE273.out) | exact HB.out)⟩
       ·rw [if_neg c13] at H
        exact absurd H (by simp)
      ·rw [if_neg c12] at H
       have c12b0 : decide (x3_2 < (a0_0.size : Int)) = false := decide_eq_false c12
       clear c12
       obtain rfl := Option.some.inj H
       have hcz28_0 : wr.cell? ⟨gb273, 0, none⟩ = some (.string a0_0) := (blk_cell BK273.out 0).trans rfl
       have hcz28_1 : wr.cell? ⟨gb273, 1, none⟩ = some (.int .i64 a0_1) := (blk_cell BK273.out 1).trans rfl
       have hfz28_0 := blk_frozen BK273.out 0
       have hfz28_1 := blk_frozen BK273.out 1
       go_wp2
       go_ret
       exact ⟨by first | rfl | (simp [errW_none, errW_some] <;> rfl) | (simp [*, errW_none, errW_some] <;> rfl), by repeat (first | (with_reducible first | exact HB.out | apply below_alloc | apply pw_below_drewN | apply below_drew1 | refine below_set ?_ GE273.out) | exact HB.out)⟩

end Go.Proofs.YtpmieapgbdbabaaDoor.QAll
end

section
/- What the walks take from the library's shelf, at this program: written by the kit's own tools, the wanted ones picked by a program of this session (wip/pp/shelf.py). -/
namespace Go.Proofs
open Go.Shelf
def Tryd.laysM171_ren : Go.Shelf.Ren := ⟨fun | 171 => 69 | 243 => 91 | 246 => 105 | 283 => 120 | 284 => 121 | 285 => 122 | 286 => 123 | 129 => 139 | 317 => 138 | 318 => 140 | 319 => 141 | 320 => 142 | 337 => 150 | 338 => 151 | n => n, fun | 3 => 3 | 9 => 9 | 2 => 2 | 4 => 4 | 171 => 168 | 0 => 0 | 53 => 169 | 37 => 104 | 5 => 5 | 173 => 172 | 212 => 186 | 51 => 187 | 20 => 20 | 213 => 188 | 46 => 129 | 232 => 203 | 233 => 204 | n => n, fun | 17 => 3 | 18 => 6 | 19 => 7 | n => n⟩
theorem Tryd.laysM171 : Go.Proofs.LaysM.n171 Tryd.prog Tryd.laysM171_ren := {
  mixed := by kernel_rfl
  f129 := Tryd.func139.trans (congrArg some (by kernel_rfl))
  f171 := Tryd.func69.trans (congrArg some (by kernel_rfl))
  f243 := Tryd.func91.trans (congrArg some (by kernel_rfl))
  f246 := Tryd.func105.trans (congrArg some (by kernel_rfl))
  f283 := Tryd.func120.trans (congrArg some (by kernel_rfl))
  f284 := Tryd.func121.trans (congrArg some (by kernel_rfl))
  f285 := Tryd.func122.trans (congrArg some (by kernel_rfl))
  f286 := Tryd.func123.trans (congrArg some (by kernel_rfl))
  f317 := Tryd.func138.trans (congrArg some (by kernel_rfl))
  f318 := Tryd.func140.trans (congrArg some (by kernel_rfl))
  f319 := Tryd.func141.trans (congrArg some (by kernel_rfl))
  f320 := Tryd.func142.trans (congrArg some (by kernel_rfl))
  f337 := Tryd.func150.trans (congrArg some (by kernel_rfl))
  f338 := Tryd.func151.trans (congrArg some (by kernel_rfl))
  t0 := Tryd.underlying0
  a0 := Tryd.isAgg0
  z0 := Tryd.sizeOf0
  v0 := Tryd.zeroValue0
  t2 := Tryd.underlying2
  a2 := Tryd.isAgg2
  z2 := Tryd.sizeOf2
  v2 := Tryd.zeroValue2
  t3 := Tryd.underlying3
  a3 := Tryd.isAgg3
  z3 := Tryd.sizeOf3
  v3 := Tryd.zeroValue3
  t4 := Tryd.underlying4
  a4 := Tryd.isAgg4
  z4 := Tryd.sizeOf4
  v4 := Tryd.zeroValue4
  t5 := Tryd.underlying5
  a5 := Tryd.isAgg5
  z5 := Tryd.sizeOf5
  v5 := Tryd.zeroValue5
  t9 := Tryd.underlying9
  a9 := Tryd.isAgg9
  z9 := Tryd.sizeOf9
  v9 := Tryd.zeroValue9
  t20 := Tryd.underlying20
  a20 := Tryd.isAgg20
  z20 := Tryd.sizeOf20
  v20 := Tryd.zeroValue20
  t37 := Tryd.underlying104
  a37 := Tryd.isAgg104
  z37 := Tryd.sizeOf104
  v37 := Tryd.zeroValue104
  t46 := Tryd.underlying129
  a46 := Tryd.isAgg129
  z46 := Tryd.sizeOf129
  v46 := Tryd.zeroValue129
  t51 := Tryd.underlying187
  a51 := Tryd.isAgg187
  z51 := Tryd.sizeOf187
  v51 := Tryd.zeroValue187
  t53 := Tryd.underlying169
  a53 := Tryd.isAgg169
  z53 := Tryd.sizeOf169
  v53 := Tryd.zeroValue169
  t171 := Tryd.underlying168
  a171 := Tryd.isAgg168
  z171 := Tryd.sizeOf168
  v171 := Tryd.zeroValue168
  t173 := Tryd.underlying172
  a173 := Tryd.isAgg172
  z173 := Tryd.sizeOf172
  v173 := Tryd.zeroValue172
  t212 := Tryd.underlying186
  a212 := Tryd.isAgg186
  z212 := Tryd.sizeOf186
  v212 := Tryd.zeroValue186
  t213 := Tryd.underlying188
  a213 := Tryd.isAgg188
  z213 := Tryd.sizeOf188
  t232 := Tryd.underlying203
  a232 := Tryd.isAgg203
  z232 := Tryd.sizeOf203
  v232 := Tryd.zeroValue203
  t233 := Tryd.underlying204
  a233 := Tryd.isAgg204
  z233 := Tryd.sizeOf204
  v233 := Tryd.zeroValue204
  g17 := by kernel_rfl
  g18 := by kernel_rfl
  g19 := by kernel_rfl
  i0 := by kernel_rfl
  i2 := by kernel_rfl
  i3 := by kernel_rfl
  i4 := by kernel_rfl
  i5 := by kernel_rfl
  i9 := by kernel_rfl
  i20 := by kernel_rfl
  i37 := by kernel_rfl
  i46 := by kernel_rfl
  i51 := by kernel_rfl
  i53 := by kernel_rfl
  i171 := by kernel_rfl
  i173 := by kernel_rfl
  i212 := by kernel_rfl
  i232 := by kernel_rfl
  i233 := by kernel_rfl
  m17 := by kernel_rfl
  m18 := by kernel_rfl
  m19 := by kernel_rfl }
open Go.RowKit Go.Sort Go.Lib in
theorem Tryd.strconv_Itoa (n : Int) (h0 : -9223372036854775808 ≤ n) (h1 : n ≤ 9223372036854775807) (w : World) (htab : Lib.TabIs Tryd.prog w "internal/strconv.uint64pow10" .u64 Lib.pow10Tab) :
    Calls Tryd.prog 69 #[.int .i64 n] w fun e w' => e = .returned (.string ⟨(Lib.itoa n).toArray⟩) ∧ ∃ k os, w' = grow (w.drewN k) os := Any.strconv_Itoa Tryd.laysM171 n h0 h1 w htab
def Tryd.laysC172_ren : Go.Shelf.Ren := ⟨fun | 172 => 72 | 244 => 93 | 245 => 94 | 247 => 107 | 279 => 108 | 280 => 109 | 281 => 110 | 282 => 111 | 287 => 128 | 316 => 129 | 171 => 69 | 205 => 130 | 321 => 145 | 322 => 146 | 243 => 91 | 246 => 105 | 283 => 120 | 284 => 121 | 285 => 122 | 286 => 123 | 129 => 139 | 317 => 138 | 318 => 140 | 319 => 141 | 320 => 142 | 337 => 150 | 338 => 151 | n => n, fun | 9 => 9 | 3 => 3 | 75 => 109 | 76 => 110 | 4 => 4 | 5 => 5 | 167 => 157 | 37 => 104 | 0 => 0 | 85 => 158 | 2 => 2 | 168 => 160 | 53 => 169 | 175 => 176 | 46 => 129 | 210 => 179 | 127 => 137 | 145 => 196 | 143 => 194 | 21 => 21 | 171 => 168 | 173 => 172 | 212 => 186 | 51 => 187 | 20 => 20 | 213 => 188 | 232 => 203 | 233 => 204 | 80 => 112 | n => n, fun | 15 => 1 | 16 => 2 | 17 => 3 | 18 => 6 | 19 => 7 | n => n⟩
theorem Tryd.laysC172 : Go.Proofs.LaysC.n172 Tryd.prog Tryd.laysC172_ren := {
  mixed := by kernel_rfl
  f129 := Tryd.func139.trans (congrArg some (by kernel_rfl))
  f171 := Tryd.func69.trans (congrArg some (by kernel_rfl))
  f172 := Tryd.func72.trans (congrArg some (by kernel_rfl))
  f205 := Tryd.func130.trans (congrArg some (by kernel_rfl))
  f243 := Tryd.func91.trans (congrArg some (by kernel_rfl))
  f244 := Tryd.func93.trans (congrArg some (by kernel_rfl))
  f245 := Tryd.func94.trans (congrArg some (by kernel_rfl))
  f246 := Tryd.func105.trans (congrArg some (by kernel_rfl))
  f247 := Tryd.func107.trans (congrArg some (by kernel_rfl))
  f279 := Tryd.func108.trans (congrArg some (by kernel_rfl))
  f280 := Tryd.func109.trans (congrArg some (by kernel_rfl))
  f281 := Tryd.func110.trans (congrArg some (by kernel_rfl))
  f282 := Tryd.func111.trans (congrArg some (by kernel_rfl))
  f283 := Tryd.func120.trans (congrArg some (by kernel_rfl))
  f284 := Tryd.func121.trans (congrArg some (by kernel_rfl))
  f285 := Tryd.func122.trans (congrArg some (by kernel_rfl))
  f286 := Tryd.func123.trans (congrArg some (by kernel_rfl))
  f287 := Tryd.func128.trans (congrArg some (by kernel_rfl))
  f316 := Tryd.func129.trans (congrArg some (by kernel_rfl))
  f317 := Tryd.func138.trans (congrArg some (by kernel_rfl))
  f318 := Tryd.func140.trans (congrArg some (by kernel_rfl))
  f319 := Tryd.func141.trans (congrArg some (by kernel_rfl))
  f320 := Tryd.func142.trans (congrArg some (by kernel_rfl))
  f321 := Tryd.func145.trans (congrArg some (by kernel_rfl))
  f322 := Tryd.func146.trans (congrArg some (by kernel_rfl))
  f337 := Tryd.func150.trans (congrArg some (by kernel_rfl))
  f338 := Tryd.func151.trans (congrArg some (by kernel_rfl))
  t0 := Tryd.underlying0
  a0 := Tryd.isAgg0
  z0 := Tryd.sizeOf0
  v0 := Tryd.zeroValue0
  t2 := Tryd.underlying2
  a2 := Tryd.isAgg2
  z2 := Tryd.sizeOf2
  v2 := Tryd.zeroValue2
  t3 := Tryd.underlying3
  a3 := Tryd.isAgg3
  z3 := Tryd.sizeOf3
  v3 := Tryd.zeroValue3
  t4 := Tryd.underlying4
  a4 := Tryd.isAgg4
  z4 := Tryd.sizeOf4
  v4 := Tryd.zeroValue4
  t5 := Tryd.underlying5
  a5 := Tryd.isAgg5
  z5 := Tryd.sizeOf5
  v5 := Tryd.zeroValue5
  t9 := Tryd.underlying9
  a9 := Tryd.isAgg9
  z9 := Tryd.sizeOf9
  v9 := Tryd.zeroValue9
  t20 := Tryd.underlying20
  a20 := Tryd.isAgg20
  z20 := Tryd.sizeOf20
  v20 := Tryd.zeroValue20
  t21 := Tryd.underlying21
  a21 := Tryd.isAgg21
  z21 := Tryd.sizeOf21
  v21 := Tryd.zeroValue21
  t37 := Tryd.underlying104
  a37 := Tryd.isAgg104
  z37 := Tryd.sizeOf104
  v37 := Tryd.zeroValue104
  t46 := Tryd.underlying129
  a46 := Tryd.isAgg129
  z46 := Tryd.sizeOf129
  v46 := Tryd.zeroValue129
  t51 := Tryd.underlying187
  a51 := Tryd.isAgg187
  z51 := Tryd.sizeOf187
  v51 := Tryd.zeroValue187
  t53 := Tryd.underlying169
  a53 := Tryd.isAgg169
  z53 := Tryd.sizeOf169
  v53 := Tryd.zeroValue169
  t75 := Tryd.underlying109
  a75 := Tryd.isAgg109
  z75 := Tryd.sizeOf109
  v75 := Tryd.zeroValue109
  t76 := Tryd.underlying110
  a76 := Tryd.isAgg110
  z76 := Tryd.sizeOf110
  v76 := Tryd.zeroValue110
  t85 := Tryd.underlying158
  a85 := Tryd.isAgg158
  z85 := Tryd.sizeOf158
  v85 := Tryd.zeroValue158
  t127 := Tryd.underlying137
  a127 := Tryd.isAgg137
  z127 := Tryd.sizeOf137
  v127 := Tryd.zeroValue137
  t143 := Tryd.underlying194
  a143 := Tryd.isAgg194
  z143 := Tryd.sizeOf194
  v143 := Tryd.zeroValue194
  t145 := Tryd.underlying196
  a145 := Tryd.isAgg196
  z145 := Tryd.sizeOf196
  v145 := Tryd.zeroValue196
  t167 := Tryd.underlying157
  a167 := Tryd.isAgg157
  z167 := Tryd.sizeOf157
  v167 := Tryd.zeroValue157
  t168 := Tryd.underlying160
  a168 := Tryd.isAgg160
  z168 := Tryd.sizeOf160
  v168 := Tryd.zeroValue160
  t171 := Tryd.underlying168
  a171 := Tryd.isAgg168
  z171 := Tryd.sizeOf168
  v171 := Tryd.zeroValue168
  t173 := Tryd.underlying172
  a173 := Tryd.isAgg172
  z173 := Tryd.sizeOf172
  v173 := Tryd.zeroValue172
  t175 := Tryd.underlying176
  a175 := Tryd.isAgg176
  z175 := Tryd.sizeOf176
  v175 := Tryd.zeroValue176
  t210 := Tryd.underlying179
  a210 := Tryd.isAgg179
  z210 := Tryd.sizeOf179
  v210 := Tryd.zeroValue179
  t212 := Tryd.underlying186
  a212 := Tryd.isAgg186
  z212 := Tryd.sizeOf186
  v212 := Tryd.zeroValue186
  t213 := Tryd.underlying188
  a213 := Tryd.isAgg188
  z213 := Tryd.sizeOf188
  t232 := Tryd.underlying203
  a232 := Tryd.isAgg203
  z232 := Tryd.sizeOf203
  v232 := Tryd.zeroValue203
  t233 := Tryd.underlying204
  a233 := Tryd.isAgg204
  z233 := Tryd.sizeOf204
  v233 := Tryd.zeroValue204
  g15 := by kernel_rfl
  g16 := by kernel_rfl
  g17 := by kernel_rfl
  g18 := by kernel_rfl
  g19 := by kernel_rfl
  t80 := Tryd.underlying112
  a80 := Tryd.isAgg112
  z80 := Tryd.sizeOf112
  v80 := Tryd.zeroValue112
  i0 := by kernel_rfl
  i2 := by kernel_rfl
  i3 := by kernel_rfl
  i4 := by kernel_rfl
  i5 := by kernel_rfl
  i9 := by kernel_rfl
  i20 := by kernel_rfl
  i21 := by kernel_rfl
  i37 := by kernel_rfl
  i46 := by kernel_rfl
  i51 := by kernel_rfl
  i53 := by kernel_rfl
  i75 := by kernel_rfl
  i76 := by kernel_rfl
  i80 := by kernel_rfl
  i85 := by kernel_rfl
  i127 := by kernel_rfl
  i143 := by kernel_rfl
  i145 := by kernel_rfl
  i167 := by kernel_rfl
  i168 := by kernel_rfl
  i171 := by kernel_rfl
  i173 := by kernel_rfl
  i175 := by kernel_rfl
  i210 := by kernel_rfl
  i212 := by kernel_rfl
  i232 := by kernel_rfl
  i233 := by kernel_rfl
  m15 := by kernel_rfl
  m16 := by kernel_rfl
  m17 := by kernel_rfl
  m18 := by kernel_rfl
  m19 := by kernel_rfl
  c0 := by kernel_rfl
  c2 := by kernel_rfl
  c3 := by kernel_rfl
  c4 := by kernel_rfl
  c5 := by kernel_rfl
  c9 := by kernel_rfl
  c20 := by kernel_rfl
  c21 := by kernel_rfl
  c37 := by kernel_rfl
  c46 := by kernel_rfl
  c51 := by kernel_rfl
  c53 := by kernel_rfl
  c75 := by kernel_rfl
  c76 := by kernel_rfl
  c80 := by kernel_rfl
  c85 := by kernel_rfl
  c127 := by kernel_rfl
  c143 := by kernel_rfl
  c145 := by kernel_rfl
  c167 := by kernel_rfl
  c168 := by kernel_rfl
  c171 := by kernel_rfl
  c173 := by kernel_rfl
  c175 := by kernel_rfl
  c210 := by kernel_rfl
  c212 := by kernel_rfl
  c213 := by kernel_rfl
  c232 := by kernel_rfl
  c233 := by kernel_rfl }
open Go.RowKit in
theorem Tryd.strconv_Atoi_ok (s : ByteArray) (hmax : s.size ≤ 9223372036854775806) (v : Int) (h : Lib.atoiAll s.data.toList = .ok v) (w : World) :
    Calls Tryd.prog 72 #[.string s] w fun e w' => e = .returned (.tuple #[.int .i64 v, .nilIface]) ∧ (w' = w ∨ ∃ t, w' = Lib.bytesWorld w 5 t) := Any.strconv_Atoi_ok Tryd.laysC172 s hmax v h w
open Go.RowKit in
theorem Tryd.strconv_Atoi_bad (s : ByteArray) (hlim : s.size ≤ 281474976710656) (h1 : ∀ v, Lib.atoiAll s.data.toList ≠ .ok v) (h2 : Lib.atoiAll s.data.toList ≠ .range) (ev : Value) (w : World) (hv : w.cell? ⟨1, 0, none⟩ = some ev) (hev : ev = .nilIface ∨ ∃ te pe, ev = .iface te pe) :
    Calls Tryd.prog 72 #[.string s] w fun e w' => ∃ N, e = .returned (.tuple #[.int .i64 (0), .iface 160 (.pointer (some ⟨N, 0, none⟩))]) ∧ w.heap.size ≤ N ∧ w'.heap[N]? = some (.cells #[.string ⟨#[65, 116, 111, 105]⟩, .string s, ev] 179 (0, 0)) ∧ Below w.heap.size w w' := Any.strconv_Atoi_syntax Tryd.laysC172 s hlim (by cases e : Lib.atoiAll s.data.toList <;> first | rfl | exact absurd e (h1 _) | exact absurd e h2) ev w hv hev
open Go.RowKit in
theorem Tryd.strconv_Atoi_range (s : ByteArray) (hlim : s.size ≤ 281474976710656) (h : Lib.atoiAll s.data.toList = .range) (ev : Value) (w : World) (hv : w.cell? ⟨2, 0, none⟩ = some ev) (hev : ev = .nilIface ∨ ∃ te pe, ev = .iface te pe) :
    Calls Tryd.prog 72 #[.string s] w fun e w' => ∃ N, e = .returned (.tuple #[.int .i64 (Lib.atoiSat s.data.toList), .iface 160 (.pointer (some ⟨N, 0, none⟩))]) ∧ w.heap.size ≤ N ∧ w'.heap[N]? = some (.cells #[.string ⟨#[65, 116, 111, 105]⟩, .string s, ev] 179 (0, 0)) ∧ Below w.heap.size w w' := Any.strconv_Atoi_range Tryd.laysC172 s hlim h ev w hv hev
def Tryd.lays219_ren : Go.Shelf.Ren := ⟨fun | 219 => 106 | 217 => 124 | 225 => 125 | 224 => 126 | 267 => 127 | 266 => 143 | 314 => 144 | n => n, fun | 9 => 9 | 3 => 3 | 4 => 4 | 5 => 5 | 46 => 129 | 146 => 191 | 51 => 187 | n => n, fun | 1 => 0 | n => n⟩
theorem Tryd.lays219 : Go.Proofs.Lays.n219 Tryd.prog Tryd.lays219_ren := {
  mixed := by kernel_rfl
  f217 := Tryd.func124.trans (congrArg some (by kernel_rfl))
  f219 := Tryd.func106.trans (congrArg some (by kernel_rfl))
  f224 := Tryd.func126.trans (congrArg some (by kernel_rfl))
  f225 := Tryd.func125.trans (congrArg some (by kernel_rfl))
  f266 := Tryd.func143.trans (congrArg some (by kernel_rfl))
  f267 := Tryd.func127.trans (congrArg some (by kernel_rfl))
  f314 := Tryd.func144.trans (congrArg some (by kernel_rfl))
  t3 := Tryd.underlying3
  a3 := Tryd.isAgg3
  z3 := Tryd.sizeOf3
  v3 := Tryd.zeroValue3
  t4 := Tryd.underlying4
  a4 := Tryd.isAgg4
  z4 := Tryd.sizeOf4
  v4 := Tryd.zeroValue4
  t5 := Tryd.underlying5
  a5 := Tryd.isAgg5
  z5 := Tryd.sizeOf5
  v5 := Tryd.zeroValue5
  t9 := Tryd.underlying9
  a9 := Tryd.isAgg9
  z9 := Tryd.sizeOf9
  v9 := Tryd.zeroValue9
  t46 := Tryd.underlying129
  a46 := Tryd.isAgg129
  z46 := Tryd.sizeOf129
  v46 := Tryd.zeroValue129
  t51 := Tryd.underlying187
  a51 := Tryd.isAgg187
  z51 := Tryd.sizeOf187
  v51 := Tryd.zeroValue187
  t146 := Tryd.underlying191
  a146 := Tryd.isAgg191
  z146 := Tryd.sizeOf191
  v146 := Tryd.zeroValue191
  g1 := by kernel_rfl }
open Go.RowKit Go.Lib in
theorem Tryd.stringslite_Index_one (s : ByteArray) (c : UInt8) (w : World) :
    Calls Tryd.prog 106 #[.string s, .string ⟨#[c]⟩] w fun e w' => e = .returned (.int .i64 (Lib.indexByte s.data.toList c)) ∧ w' = w := Any.stringslite_Index_one Tryd.lays219 s c w
end Go.Proofs
end

section
/- What the walks ask of the package's variables (the two errors of strconv, its table of powers, the search's limit), and that it holds on while nothing that was there is written. -/
set_option linter.unusedVariables false
namespace Go.Proofs.YtpmieapgbdbabaaDoor.QAll
open Go.RowKit Go.Proofs.YtpmieapgbdbabaaDoorW.PrintWords Go.Proofs.YtpmieapgbdbabaaDoorW.PrintLast Go.Proofs.YtpmieapgbdbabaaDoorW.PrintMore
structure EnvW (w : World) : Prop where
  mx : ∃ m, w.cell? ⟨0, 0, none⟩ = some (.int .i64 m)
  syn : ∃ ev, w.cell? ⟨1, 0, none⟩ = some ev ∧ (ev = .nilIface ∨ ∃ te pe, ev = .iface te pe)
  rng : ∃ ev, w.cell? ⟨2, 0, none⟩ = some ev ∧ (ev = .nilIface ∨ ∃ te pe, ev = .iface te pe)
  tab : Lib.TabIs Tryd.prog w "internal/strconv.uint64pow10" .u64 Lib.pow10Tab
theorem EnvW.below {w w' : World} (h : EnvW w) (hb : Below w.heap.size w w') : EnvW w' := by
  obtain ⟨⟨m, hm⟩, ⟨ev, hs, hs2⟩, ⟨ev2, hr, hr2⟩, ht⟩ := h
  refine ⟨⟨m, pw_cell_below hb hm⟩, ⟨ev, pw_cell_below hb hs, hs2⟩, ⟨ev2, pw_cell_below hb hr, hr2⟩, ?_⟩
  unfold Lib.TabIs World.var? at ht ⊢
  cases hg : Tryd.prog.globalNamed "internal/strconv.uint64pow10" with
  | none => simp [hg] at ht
  | some g =>
    simp only [hg, Option.bind_some] at ht ⊢
    have hlt : g < w.heap.size := by
      rcases Nat.lt_or_ge g w.heap.size with h' | h'
      · exact h'
      · simp [Array.getElem?_eq_none h'] at ht
    rw [hb.block g hlt]
    exact ht
end Go.Proofs.YtpmieapgbdbabaaDoor.QAll
end

section
/- Walks, written by a program of this session (wip/pp): a Go function comes to what the Lean function beside it tells. -/
namespace Go.Proofs.YtpmieapgbdbabaaDoor.QAll
open Go.RowKit Go.Proofs.YtpmieapgbdbabaaDoorW.PrintWords Go.Proofs.YtpmieapgbdbabaaDoorW.PrintLast Go.Proofs.YtpmieapgbdbabaaDoorW.PrintMore
set_option linter.unusedVariables false
set_option linter.unusedSimpArgs false

def call_letter.f (a0 : Int) : Option (Bool) := if a0 ≥ 65 then (if a0 ≤ 90 then (some true) else (if a0 ≥ 48 then (some (decide (a0 ≤ 57))) else (some false))) else (if a0 ≥ 48 then (some (decide (a0 ≤ 57))) else (some false))
set_option maxHeartbeats 8000000 in
set_option maxRecDepth 100000 in
theorem call_letter.calls (a0 : Int) (r : Bool) (w : World) (h : call_letter.f a0 = some r) :
  Calls Tryd.prog 68 #[.int .u8 a0] w fun e w' => e = .returned (.bool r) ∧ Drawn0 w w' := by
 have H : (if a0 ≥ 65 then (if a0 ≤ 90 then (some true) else (if a0 ≥ 48 then (some (decide (a0 ≤ 57))) else (some false))) else (if a0 ≥ 48 then (some (decide (a0 ≤ 57))) else (some false))) = some r := h
 clear h
 by_cases c2 : a0 ≥ 65
 ·rw [if_pos c2] at H
  have c2b0 : decide (65 ≤ a0) = true := decide_eq_true c2
  clear c2
  by_cases c3 : a0 ≤ 90
  ·rw [if_pos c3] at H
   have c3b0 : decide (a0 ≤ 90) = true := decide_eq_true c3
   clear c3
   obtain rfl := Option.some.inj H
   go_enter Tryd.func68, Tryd.ntmps68
   go_wp2
   go_ret
   exact ⟨by first | rfl | (simp; done) | (simp [*]; done) | (simp; exact (fun l : List UInt8 => (by cases l <;> rfl : l.isEmpty = !(l != []))) _), by repeat (first | exact Drawn0.refl _ | apply Drawn0.step)⟩
  ·rw [if_neg c3] at H
   have c3b0 : decide (a0 ≤ 90) = false := decide_eq_false c3
   clear c3
   by_cases c4 : a0 ≥ 48
   ·rw [if_pos c4] at H
    have c4b0 : decide (48 ≤ a0) = true := decide_eq_true c4
    clear c4
    obtain rfl := Option.some.inj H
    go_enter Tryd.func68, Tryd.ntmps68
    go_wp2
    go_ret
    exact ⟨by first | rfl | (simp; done) | (simp [*]; done) | (simp; exact (fun l : List UInt8 => (by cases l <;> rfl : l.isEmpty = !(l != []))) _), by repeat (first | exact Drawn0.refl _ | apply Drawn0.step)⟩
   ·rw [if_neg c4] at H
    have c4b0 : decide (48 ≤ a0) = false := decide_eq_false c4
    clear c4
    obtain rfl := Option.some.inj H
    go_enter Tryd.func68, Tryd.ntmps68
    go_wp2
    go_ret
    exact ⟨by first | rfl | (simp; done) | (simp [*]; done) | (simp; exact (fun l : List UInt8 => (by cases l <;> rfl : l.isEmpty = !(l != []))) _), by repeat (first | exact Drawn0.refl _ | apply Drawn0.step)⟩
 ·rw [if_neg c2] at H
  have c2b0 : decide (65 ≤ a0) = false := decide_eq_false c2
  clear c2
  by_cases c5 : a0 ≥ 48
  ·rw [if_pos c5] at H
   have c5b0 : decide (48 ≤ a0) = true := decide_eq_true c5
   clear c5
   obtain rfl := Option.some.inj H
   go_enter Tryd.func68, Tryd.ntmps68
   go_wp2
   go_ret
   exact ⟨by first | rfl | (simp; done) | (simp [*]; done) | (simp; exact (fun l : List UInt8 => (by cases l <;> rfl : l.isEmpty = !(l != []))) _), by repeat (first | exact Drawn0.refl _ | apply Drawn0.step)⟩
  ·rw [if_neg c5] at H
   have c5b0 : decide (48 ≤ a0) = false := decide_eq_false c5
   clear c5
   obtain rfl := Option.some.inj H
   go_enter Tryd.func68, Tryd.ntmps68
   go_wp2
   go_ret
   exact ⟨by first | rfl | (simp; done) | (simp [*]; done) | (simp; exact (fun l : List UInt8 => (by cases l <;> rfl : l.isEmpty = !(l != []))) _), by repeat (first | exact Drawn0.refl _ | apply Drawn0.step)⟩

end Go.Proofs.YtpmieapgbdbabaaDoor.QAll
end

section
/- call.Right, walked by hand: it tells whether all bytes of the base are letters or digits, and the lengths and the number are in their ranges, for every call. -/
set_option linter.unusedVariables false
set_option linter.unusedSimpArgs false
namespace Go.Proofs.YtpmieapgbdbabaaDoor.QAll
open Go.RowKit Go.Proofs.YtpmieapgbdbabaaDoorW.PrintWords Go.Proofs.YtpmieapgbdbabaaDoorW.PrintLast Go.Proofs.YtpmieapgbdbabaaDoorW.PrintMore

/-- May the byte c stand in a call? -/
def letB (c : Int) : Bool := decide (65 ≤ c ∧ c ≤ 90 ∨ 48 ≤ c ∧ c ≤ 57)
theorem letter_f (c : Int) : call_letter.f c = some (letB c) := by
  unfold call_letter.f letB
  repeat' split
  all_goals (congr 1; first | exact decide_eq_decide.2 (by omega) | (symm; exact decide_eq_true (by omega)) | (symm; exact decide_eq_false (by omega)))
/-- All of the first k bytes are letters or digits. -/
def letsTo (s : ByteArray) (k : Nat) : Prop := ∀ j : Nat, j < k → letB (bt s j) = true
def letsB (s : ByteArray) : Bool := s.data.toList.all fun c => letB c.toNat
theorem bt_data (s : ByteArray) (j : Nat) (h : j < s.size) : bt s j = ((s.data.toList[j]'(by simpa using h)).toNat : Int) := by
  unfold bt
  rw [dif_pos (by simpa using h)]
  rfl
theorem letsB_true {s : ByteArray} (h : letsTo s s.size) : letsB s = true := by
  unfold letsB
  rw [List.all_eq_true]
  intro c hc
  obtain ⟨j, hj, rfl⟩ := List.getElem_of_mem hc
  have hj' : j < s.size := by simpa using hj
  have := h j hj'
  rw [bt_data s j hj'] at this
  exact this
theorem letsB_false {s : ByteArray} (k : Nat) (hk : k < s.size) (h : letB (bt s k) = false) : letsB s = false := by
  unfold letsB
  rw [List.all_eq_false]
  refine ⟨_, List.getElem_mem (by simpa using hk : k < s.data.toList.length), ?_⟩
  rw [bt_data s k hk] at h
  rw [h]
  decide
def rightB (s : ByteArray) (n : Int) : Bool := letsB s && (decide (1 ≤ s.size) && (decide (s.size ≤ 6) && (decide (0 ≤ n) && decide (n ≤ 15))))
def call_Right.f (a0_0 : ByteArray) (a0_1 : Int) : Option Bool := if a0_0.size ≤ 9223372036854775807 then some (rightB a0_0 a0_1) else none

set_option maxHeartbeats 1000000 in
set_option maxRecDepth 100000 in
theorem call_Right.calls (a0_0 : ByteArray) (a0_1 : Int) (r : Bool) (w : World) (h : call_Right.f a0_0 a0_1 = some r) :
    Calls Tryd.prog 40 #[.agg #[.string a0_0, .int .i64 a0_1]] w fun e w' => e = .returned (.bool r) ∧ Below w.heap.size w w' := by
  unfold call_Right.f at h
  split at h
  case isFalse => exact absurd h (by simp)
  rename_i hs
  have HR := Aside0.mk (Option.some.inj h)
  clear h
  have hu23 := Tryd.underlying23
  have kb := fun W => print_bytes (P := Tryd.prog) 9 104 5 Tryd.underlying9 Tryd.underlying104 Tryd.underlying5 a0_0 W
  go_enter Tryd.func40, Tryd.ntmps40
  go_wp2
  go_loopw [9] (fun i wr => ∃ k : Nat, k ≤ a0_0.size ∧ i = .int .i64 k ∧ Aside0 (letsTo a0_0 k) ∧ Aside0 (Below w.heap.size w wr) ∧ (wr.cell? ⟨w.heap.size, 0, none⟩ = some (.string a0_0)) ∧ (wr.cell? ⟨w.heap.size, 1, none⟩ = some (.int .i64 a0_1)) ∧
      Aside0 (∀ j : Nat, j < a0_0.size → wr.cell? ⟨w.heap.size + 1, j, none⟩ = some (.int .u8 (bt a0_0 j)))) (fun i _ => a0_0.size - (intOf i).toNat)
  case atStart =>
    refine ⟨0, Nat.zero_le _, rfl, ⟨fun j hj => absurd hj (by omega)⟩, ⟨?_⟩, ?_, ?_, ⟨?_⟩⟩
    · exact bytes_below ((Below.refl _ _).alloc (Nat.le_refl _) _) (by simp) _ _
    · rw [Lib.bytesWorld_old _ _ _ _ (by simp)]; simp
    · rw [Lib.bytesWorld_old _ _ _ _ (by simp)]; simp
    · intro j hj
      have z := Lib.bytesWorld_cell (w.alloc (Obj.cells #[Value.string a0_0, Value.int IntKind.i64 a0_1] 23)) 5 a0_0 j hj
      have e : (w.alloc (Obj.cells #[Value.string a0_0, Value.int IntKind.i64 a0_1] 23)).heap.size = w.heap.size + 1 := by simp
      rw [e] at z
      rw [z, bt_data a0_0 j hj, List.getD_eq_getElem?_getD, List.getElem?_eq_getElem (by simpa using hj)]
      rfl
  case round =>
    obtain ⟨k, hk, rfl, HL, HB, hc0, hc1, HC⟩ := hrel
    by_cases hlt : k < a0_0.size
    · have hcell := HC.out k hlt
      have hb := bt_range a0_0 k
      have hcb := Aside0.mk hb
      cases hl : letB (bt a0_0 k) with
      | true =>
        have HL1 := Aside0.mk hl
        clear hl hb
        go_wp2_with (go_at_call 68; (with_reducible refine (call_letter.calls (bt a0_0 k) true _ (by rw [letter_f, HL1.out])).mono ?_); rintro e w' ⟨rfl, ⟨nd, rfl⟩⟩)
        go_roundw
        case rel =>
          refine ⟨k + 1, by omega, by go_num, ⟨fun j hj => ?_⟩, ⟨pw_below_drewN HB.out _⟩, hc0, hc1, ⟨HC.out⟩⟩
          by_cases e : j = k
          · subst e; exact HL1.out
          · exact HL.out j (by omega)
        case measure => simp [intOf]; omega
      | false =>
        have HL1 := Aside0.mk hl
        clear hl hb
        go_wp2_with (go_at_call 68; (with_reducible refine (call_letter.calls (bt a0_0 k) false _ (by rw [letter_f, HL1.out])).mono ?_); rintro e w' ⟨rfl, ⟨nd, rfl⟩⟩)
        go_ret
        refine ⟨?_, pw_below_drewN HB.out _⟩
        have e : rightB a0_0 a0_1 = false := by unfold rightB; rw [letsB_false k hlt HL1.out, Bool.false_and]
        rw [← HR.out, e]; rfl
    · obtain rfl : k = a0_0.size := by omega
      have HX := Aside0.mk (show rightB a0_0 a0_1 = (decide (1 ≤ a0_0.size) && (decide (a0_0.size ≤ 6) && (decide (0 ≤ a0_1) && decide (a0_1 ≤ 15)))) by unfold rightB; rw [letsB_true HL.out, Bool.true_and])
      clear HL hk hlt
      by_cases h1 : 1 ≤ a0_0.size
      · by_cases h2 : a0_0.size ≤ 6
        · by_cases h3 : 0 ≤ a0_1
          · by_cases h4 : a0_1 ≤ 15
            · have HE := Aside0.mk (show rightB a0_0 a0_1 = true by rw [HX.out]; simp [h1, h2, h3, h4])
              go_wp2
              go_ret
              exact ⟨by rw [← HR.out, HE.out]; rfl, HB.out⟩
            · have HE := Aside0.mk (show rightB a0_0 a0_1 = false by rw [HX.out]; simp [h1, h2, h3, h4])
              go_wp2
              go_ret
              exact ⟨by rw [← HR.out, HE.out]; rfl, HB.out⟩
          · have HE := Aside0.mk (show rightB a0_0 a0_1 = false by rw [HX.out]; simp [h1, h2, h3])
            go_wp2
            go_ret
            exact ⟨by rw [← HR.out, HE.out]; rfl, HB.out⟩
        · have HE := Aside0.mk (show rightB a0_0 a0_1 = false by rw [HX.out]; simp [h1, h2])
          go_wp2
          go_ret
          exact ⟨by rw [← HR.out, HE.out]; rfl, HB.out⟩
      · have HE := Aside0.mk (show rightB a0_0 a0_1 = false by rw [HX.out]; simp [h1])
        go_wp2
        go_ret
        exact ⟨by rw [← HR.out, HE.out]; rfl, HB.out⟩
end Go.Proofs.YtpmieapgbdbabaaDoor.QAll
end

section
/- call.upper, walked by hand: a word with its small letters made great, for every word. -/
set_option linter.unusedVariables false
set_option linter.unusedSimpArgs false
namespace Go.Proofs.YtpmieapgbdbabaaDoor.QAll
open Go.RowKit Go.Proofs.YtpmieapgbdbabaaDoorW.PrintWords Go.Proofs.YtpmieapgbdbabaaDoorW.PrintLast Go.Proofs.YtpmieapgbdbabaaDoorW.PrintMore

/-- A small letter made great. -/
def upI (c : Int) : Int := if 97 ≤ c ∧ c ≤ 122 then c - 97 + 65 else c
def upL (s : ByteArray) : List Int := (bytesOf s).map upI
def upperS (s : ByteArray) : ByteArray := strOfNums (upL s)
def call_upper.f (a0 : ByteArray) : Option ByteArray := if a0.size ≤ 9223372036854775807 then some (upperS a0) else none
/-- Behind k rounds: block B holds the first k made great, the others as they were. -/
def UpAt (s : ByteArray) (B k : Nat) (w : World) : Prop := ∃ cur m, w.heap[B]? = some (.cells cur 5 (m, m + 1)) ∧ s.size ≤ m ∧
  ∀ j : Nat, j < s.size → cur[j]? = some (.int .u8 (if j < k then upI (bt s j) else bt s j))
theorem UpAt.cell {s : ByteArray} {B k : Nat} {w : World} (h : UpAt s B k w) (j : Nat) (hj : j < s.size) : w.cell? ⟨B, j, none⟩ = some (.int .u8 (if j < k then upI (bt s j) else bt s j)) := by
  obtain ⟨cur, m, hb, hm, hc⟩ := h
  simp only [World.cell?, hb]
  exact hc j hj
theorem UpAt.frozen {s : ByteArray} {B k : Nat} {w : World} (h : UpAt s B k w) (j : Nat) (hj : j < s.size) : w.frozen? ⟨B, j, none⟩ = false := by
  obtain ⟨cur, m, hb, hm, hc⟩ := h
  simp only [World.frozen?, hb]
  simp
  omega
theorem UpAt.keep {s : ByteArray} {B k : Nat} {w : World} (h : UpAt s B k w) (hk : upI (bt s k) = bt s k) : UpAt s B (k + 1) w := by
  obtain ⟨cur, m, hb, hm, hc⟩ := h
  refine ⟨cur, m, hb, hm, fun j hj => ?_⟩
  rw [hc j hj]
  by_cases e : j = k
  · subst e; rw [if_neg (by omega), if_pos (by omega), hk]
  · by_cases e2 : j < k
    · rw [if_pos e2, if_pos (by omega)]
    · rw [if_neg e2, if_neg (by omega)]
theorem UpAt.store {s : ByteArray} {B k : Nat} {w : World} (h : UpAt s B k w) (hk : k < s.size) (x : Int) (hx : x = upI (bt s k)) : UpAt s B (k + 1) (w.setCell ⟨B, k, none⟩ (.int .u8 x)) := by
  obtain ⟨cur, m, hb, hm, hc⟩ := h
  refine ⟨cur.setIfInBounds k (.int .u8 x), m, ?_, hm, fun j hj => ?_⟩
  · simp [World.setCell, Array.getElem?_modify, hb]
  · rw [Array.getElem?_setIfInBounds]
    have hcj := hc j hj
    by_cases e : k = j
    · subst e
      have : k < cur.size := (Array.getElem?_eq_some_iff.1 hcj).1
      rw [if_pos rfl, if_pos this, if_pos (by omega), hx]
    · rw [if_neg e, hcj]
      by_cases e2 : j < k
      · rw [if_pos e2, if_pos (by omega)]
      · rw [if_neg e2, if_neg (by omega)]
theorem UpAt.new (s : ByteArray) (w : World) : UpAt s w.heap.size 0 (Lib.bytesWorld w 5 s) := by
  refine ⟨_, _, Lib.bytesWorld_at_new w 5 s, ?_, fun j hj => ?_⟩
  · simp [Lib.bytesCells]
  · have h := Lib.bytesWorld_cell w 5 s j hj
    simp only [World.cell?, Lib.bytesWorld_at_new] at h
    rw [if_neg (by omega)]
    have e : (s.data.toList.getD j 0).toNat = bt s j := by
      unfold bt
      rw [dif_pos (by simpa using hj), List.getD_eq_getElem?_getD, List.getElem?_eq_getElem (by simpa using hj)]
      rfl
    rw [← e]
    simpa using h

set_option maxHeartbeats 1000000 in
set_option maxRecDepth 100000 in
theorem call_upper.calls (a0 : ByteArray) (r : ByteArray) (w : World) (h : call_upper.f a0 = some r) :
    Calls Tryd.prog 71 #[.string a0] w fun e w' => e = .returned (.string r) ∧ Below w.heap.size w w' := by
  unfold call_upper.f at h
  split at h
  case isFalse => exact absurd h (by simp)
  rename_i hs
  have HR := Aside0.mk (Option.some.inj h)
  clear h
  have kb := fun W => print_bytes (P := Tryd.prog) 9 104 5 Tryd.underlying9 Tryd.underlying104 Tryd.underlying5 a0 W
  go_enter Tryd.func71, Tryd.ntmps71
  go_wp2
  go_loopw [10] (fun i wr => ∃ k : Nat, k ≤ a0.size ∧ i = .int .i64 k ∧ Aside0 (UpAt a0 w.heap.size k wr) ∧ Aside0 (Below w.heap.size w wr)) (fun i _ => a0.size - (intOf i).toNat)
  case atStart => exact ⟨0, Nat.zero_le _, rfl, ⟨UpAt.new a0 w⟩, ⟨bytes_below (Below.refl _ _) (Nat.le_refl _) _ _⟩⟩
  case round =>
    obtain ⟨k, hk, rfl, HU, HB⟩ := hrel
    by_cases hlt : k < a0.size
    · have hcell := HU.out.cell k hlt
      rw [if_neg (by omega)] at hcell
      have hfz := HU.out.frozen k hlt
      have hb := bt_range a0 k
      by_cases h1 : 97 ≤ bt a0 k
      · by_cases h2 : bt a0 k ≤ 122
        · have HX := Aside0.mk (show bt a0 k - 97 + 65 = upI (bt a0 k) by unfold upI; rw [if_pos ⟨h1, h2⟩])
          go_wp2
          go_roundw
          case rel => exact ⟨k + 1, by omega, by go_num, ⟨HU.out.store hlt _ HX.out⟩, ⟨HB.out.setCell (Nat.le_refl _) _⟩⟩
          case measure => simp [intOf]; omega
        · have HX := Aside0.mk (show upI (bt a0 k) = bt a0 k by unfold upI; rw [if_neg (by omega)])
          go_wp2
          go_roundw
          case rel => exact ⟨k + 1, by omega, by go_num, ⟨HU.out.keep HX.out⟩, ⟨HB.out⟩⟩
          case measure => simp [intOf]; omega
      · have HX := Aside0.mk (show upI (bt a0 k) = bt a0 k by unfold upI; rw [if_neg (by omega)])
        go_wp2
        go_roundw
        case rel => exact ⟨k + 1, by omega, by go_num, ⟨HU.out.keep HX.out⟩, ⟨HB.out⟩⟩
        case measure => simp [intOf]; omega
    · obtain rfl : k = a0.size := by omega
      have hcv := fun (c : Nat) => run_convert_bytes_arg (P := Tryd.prog) wr 104 5 Tryd.underlying104 Tryd.underlying5 w.heap.size 0 a0.size c (upL a0) (by simp [upL]; exact bytesOf_length a0) (fun j hj => by
        have z := HU.out.cell j hj
        rw [if_pos hj] at z
        rw [Nat.zero_add, z]
        unfold upL
        rw [List.getD_eq_getElem?_getD, List.getElem?_map, List.getElem?_eq_getElem (by rw [bytesOf_length]; exact hj)]
        have e : (bytesOf a0)[j]'(by rw [bytesOf_length]; exact hj) = bt a0 j := by
          unfold bt
          rw [dif_pos (by simpa using hj)]
          simp [bytesOf]
          rfl
        rw [e]
        rfl) 9 Tryd.underlying9
      go_wp2
      go_ret
      exact ⟨by rw [← HR.out]; rfl, HB.out⟩
end Go.Proofs.YtpmieapgbdbabaaDoor.QAll
end

section
/- strings.Cut at a separator of one byte, walked by hand over the shelf's contract of Index: what stands ahead of the first such byte, and behind it, for every text. -/
set_option linter.unusedVariables false
set_option linter.unusedSimpArgs false
namespace Go.Proofs.YtpmieapgbdbabaaDoor.QAll
open Go.RowKit Go.Proofs.YtpmieapgbdbabaaDoorW.PrintWords Go.Proofs.YtpmieapgbdbabaaDoorW.PrintLast Go.Proofs.YtpmieapgbdbabaaDoorW.PrintMore

/-- Where the first byte c stands; the length, if there is none. -/
def idxOf (s : ByteArray) (c : UInt8) : Nat := (Lib.indexByte s.data.toList c).toNat
def cutHas (s : ByteArray) (c : UInt8) : Bool := decide (0 ≤ Lib.indexByte s.data.toList c)
def cutA (s : ByteArray) (c : UInt8) : ByteArray := if cutHas s c = true then s.extract 0 (idxOf s c) else s
def cutB (s : ByteArray) (c : UInt8) : ByteArray := if cutHas s c = true then s.extract (idxOf s c + 1) s.size else ⟨#[]⟩

theorem indexByte_lt : ∀ (l : List UInt8) (c : UInt8) (i : Nat), Lib.indexByte l c = i → i < l.length
  | [], c, i, h => by
    simp only [Lib.indexByte] at h
    omega
  | b :: l, c, i, h => by
    have hg := Lib.indexByte_ge l c
    simp only [Lib.indexByte] at h
    by_cases e : (b == c) = true
    · rw [if_pos e] at h; simp only [List.length_cons]; omega
    · rw [if_neg e] at h
      by_cases e2 : (Lib.indexByte l c == -1) = true
      · rw [if_pos e2] at h; omega
      · rw [if_neg e2] at h
        have e3 : Lib.indexByte l c ≠ -1 := by simpa using e2
        have := indexByte_lt l c (i - 1) (by omega)
        simp only [List.length_cons]; omega

set_option maxHeartbeats 1000000 in
set_option maxRecDepth 100000 in
theorem slCut_one (s : ByteArray) (c : UInt8) (w : World) (hs : s.size ≤ 9223372036854775807) :
    Calls Tryd.prog 92 #[.string s, .string ⟨#[c]⟩] w fun e w' => e = .returned (.tuple #[.string (cutA s c), .string (cutB s c), .bool (cutHas s c)]) ∧ Drawn0 w w' := by
  by_cases h : 0 ≤ Lib.indexByte s.data.toList c
  · obtain ⟨i, hi⟩ := Int.eq_ofNat_of_zero_le h
    have hlt : i < s.size := by have := indexByte_lt _ _ _ hi; simpa using this
    have HA := Aside0.mk (show cutA s c = s.extract 0 i by unfold cutA cutHas idxOf; rw [hi]; simp)
    have HB := Aside0.mk (show cutB s c = s.extract (i + 1) s.size by unfold cutB cutHas idxOf; rw [hi]; simp)
    have HH := Aside0.mk (show cutHas s c = true by unfold cutHas; rw [hi]; simp)
    have HI := Aside0.mk hi
    clear h hi
    go_enter Tryd.func92, Tryd.ntmps92
    go_wp2_with (go_at_call 106; refine (Tryd.stringslite_Index_one s c _).mono ?_; rw [HI.out]; rintro e w' ⟨rfl, rfl⟩)
    have h0 : (0 : Int) ≤ (i : Int) := by omega
    have h1 : (i : Int) ≤ (s.size : Int) := by omega
    have h2 : (i : Int) + 1 ≤ (s.size : Int) := by omega
    go_quiet (fail)
    go_wp2
    go_ret3
    exact ⟨by rw [HA.out, HB.out, HH.out]; rfl, ⟨_, rfl⟩⟩
  · have HA := Aside0.mk (show cutA s c = s by unfold cutA cutHas; rw [decide_eq_false h]; simp)
    have HB := Aside0.mk (show cutB s c = ⟨#[]⟩ by unfold cutB cutHas; rw [decide_eq_false h]; simp)
    have HH := Aside0.mk (show cutHas s c = false by unfold cutHas; rw [decide_eq_false h])
    have hm : Lib.indexByte s.data.toList c = -1 := by have := Lib.indexByte_ge s.data.toList c; omega
    have HI := Aside0.mk hm
    clear h hm
    go_enter Tryd.func92, Tryd.ntmps92
    go_wp2_with (go_at_call 106; refine (Tryd.stringslite_Index_one s c _).mono ?_; rw [HI.out]; rintro e w' ⟨rfl, rfl⟩)
    go_ret3
    exact ⟨by rw [HA.out, HB.out, HH.out]; rfl, Drawn0.refl _⟩
theorem cut_one (s : ByteArray) (c : UInt8) (w : World) (hs : s.size ≤ 9223372036854775807) :
    Calls Tryd.prog 70 #[.string s, .string ⟨#[c]⟩] w fun e w' => e = .returned (.tuple #[.string (cutA s c), .string (cutB s c), .bool (cutHas s c)]) ∧ Drawn0 w w' := by
  go_enter Tryd.func70, Tryd.ntmps70
  go_wp2_with (go_at_call 92; refine (slCut_one s c _ hs).mono ?_; rintro e w' ⟨rfl, ⟨nd, rfl⟩⟩)
  go_ret3
  exact ⟨rfl, ⟨_, rfl⟩⟩
end Go.Proofs.YtpmieapgbdbabaaDoor.QAll
end

section
/- call.Parse, walked by hand: the call of a word, or none and ErrCall, for every word. -/
set_option linter.unusedVariables false
set_option linter.unusedSimpArgs false
namespace Go.Proofs.YtpmieapgbdbabaaDoor.QAll
open Go.RowKit Go.Proofs.YtpmieapgbdbabaaDoorW.PrintWords Go.Proofs.YtpmieapgbdbabaaDoorW.PrintLast Go.Proofs.YtpmieapgbdbabaaDoorW.PrintMore

/-- The number behind the dash; none, if there is none so written. -/
def numOf (s : ByteArray) : Option Int := match Lib.atoiAll s.data.toList with
  | .ok v => if Lib.itoa v = s.data.toList then some v else none
  | _ => none
/-- What Parse tells. -/
def parseS (s : ByteArray) : ByteArray × Int × Int :=
  if cutHas (upperS s) 45 = true then
    match numOf (cutB (upperS s) 45) with
    | some v => if rightB (cutA (upperS s) 45) v = true then (cutA (upperS s) 45, v, 0) else (⟨#[]⟩, 0, 12)
    | none => (⟨#[]⟩, 0, 12)
  else if rightB (cutA (upperS s) 45) 0 = true then (cutA (upperS s) 45, 0, 0) else (⟨#[]⟩, 0, 12)
def call_Parse.f (a0 : ByteArray) : Option (ByteArray × Int × Int) := if a0.size ≤ 281474976710656 then some (parseS a0) else none

theorem upper_size (s : ByteArray) : (upperS s).size = s.size := by
  unfold upperS upL strOfNums
  show (List.toArray _).size = _
  simp [bytesOf]
theorem cutA_size (s : ByteArray) (c : UInt8) : (cutA s c).size ≤ s.size := by
  unfold cutA
  split
  · simp only [ByteArray.size_extract]; omega
  · exact Nat.le_refl _
theorem cutB_size (s : ByteArray) (c : UInt8) : (cutB s c).size ≤ s.size := by
  unfold cutB
  split
  · simp only [ByteArray.size_extract]; omega
  · exact Nat.zero_le _
theorem atoi_bounds {l : List UInt8} {v : Int} (h : Lib.atoiAll l = .ok v) : -9223372036854775808 ≤ v ∧ v ≤ 9223372036854775807 := by
  cases l with
  | nil => cases h
  | cons c r =>
    simp only [Lib.atoiAll] at h
    generalize hm : Lib.parseMag (if c.toNat = 43 ∨ c.toNat = 45 then r else c :: r) = m at h
    cases m with
    | range => cases h
    | ok u =>
      simp only at h
      by_cases e : c.toNat = 45
      · simp only [e, not_true_eq_false, false_and, if_false, true_and, if_true] at h
        split at h
        · cases h
        · injection h with h; omega
      · simp only [e, not_false_eq_true, true_and, false_and, if_false] at h
        split at h
        · cases h
        · injection h with h; omega
    | _ => cases h
theorem below_itoa (w : World) (k : Nat) (os : Array Obj) : Below w.heap.size w (Go.Sort.grow (w.drewN k) os) :=
  ⟨rfl, rfl, rfl, by show w.heap.size ≤ (w.heap ++ os).size; rw [Array.size_append]; omega, fun _ hj => Go.Sort.heap_grow_old (w.drewN k) os hj⟩
/-- A block of two cells, both written. -/
theorem two_set {w : World} {g : Nat} {a b x y : Value} {t : TypeId} (h : w.heap[g]? = some (.cells #[a, b] t (0, 0))) :
    ((w.setCell ⟨g, 0, none⟩ x).setCell ⟨g, 1, none⟩ y).heap[g]? = some (.cells #[x, y] t (0, 0)) := by
  simp [World.setCell, Array.getElem?_modify, h]
theorem one_set {w : World} {g : Nat} {a b y : Value} {t : TypeId} (h : w.heap[g]? = some (.cells #[a, b] t (0, 0))) :
    (w.setCell ⟨g, 1, none⟩ y).heap[g]? = some (.cells #[a, y] t (0, 0)) := by
  simp [World.setCell, Array.getElem?_modify, h]
/-- What is laid open of a block of two cells. -/
theorem two_cell {w : World} {g : Nat} {a b : Value} {t : TypeId} (h : w.heap[g]? = some (.cells #[a, b] t (0, 0))) :
    w.cell? ⟨g, 0, none⟩ = some a ∧ w.cell? ⟨g, 1, none⟩ = some b ∧ w.frozen? ⟨g, 0, none⟩ = false ∧ w.frozen? ⟨g, 1, none⟩ = false := by
  simp [World.cell?, World.frozen?, h]

set_option maxHeartbeats 1000000 in
set_option maxRecDepth 100000 in
theorem call_Parse.calls (a0 : ByteArray) (r1 : ByteArray) (r2 r3 : Int) (w : World) (hE_ : EnvW w) (h : call_Parse.f a0 = some (r1, r2, r3)) :
    Calls Tryd.prog 42 #[.string a0] w fun e w' => e = .returned (.tuple #[.agg #[.string r1, .int .i64 r2], .int .i64 r3]) ∧ Below w.heap.size w w' := by
  unfold call_Parse.f at h
  split at h
  case isFalse => exact absurd h (by simp)
  rename_i hs
  have HE := Aside0.mk hE_
  clear hE_
  have HR := Aside0.mk (Option.some.inj h)
  clear h
  have hu23 := Tryd.underlying23
  have hup : (upperS a0).size ≤ 281474976710656 := by rw [upper_size]; exact hs
  have hca : (cutA (upperS a0) 45).size ≤ 9223372036854775807 := by have := cutA_size (upperS a0) 45; omega
  have hcb : (cutB (upperS a0) 45).size ≤ 281474976710656 := by have := cutB_size (upperS a0) 45; omega
  go_enter Tryd.func42, Tryd.ntmps42
  go_wp2_with (fail)
  (with_reducible refine (call_upper.calls a0 (upperS a0) _ (by unfold call_upper.f; rw [if_pos (by omega)])).mono ?_)
  rintro e w1 ⟨rfl, hb1⟩
  cases hh : cutHas (upperS a0) 45 with
  | false =>
    have HH := Aside0.mk hh
    clear hh
    go_wp2_with (fail)
    (with_reducible refine (cut_one (upperS a0) 45 _ (by omega)).mono ?_)
    rw [HH.out]
    rintro e w2 ⟨rfl, hd2⟩
    have hz1 : w.heap.size < w2.heap.size := by have := hb1.size; have := hd2.below.size; simp only [World.size_alloc] at *; omega
    have HB2 := Aside0.mk (show Below w.heap.size w w2 from below_then (below_then ((Below.refl _ _).alloc (Nat.le_refl _) _) (by simp) hb1) (by have := hb1.size; simp only [World.size_alloc] at *; omega) hd2.below)
    have HR2 := Aside0.mk (show w2.heap[w.heap.size]? = some (.cells #[.string ⟨#[]⟩, .int .i64 0] 23 (0, 0)) by
      rw [hd2.below.block _ (by have := hb1.size; simp only [World.size_alloc] at this; omega), hb1.block _ (by simp)]
      exact heap_alloc_new w _)
    clear hb1 hd2
    cases hq : rightB (cutA (upperS a0) 45) 0 with
    | true =>
      have hpr := HR.out
      rw [show parseS a0 = (cutA (upperS a0) 45, 0, 0) by unfold parseS; rw [HH.out, if_neg (by decide), if_pos hq]] at hpr
      simp only [Prod.mk.injEq] at hpr
      obtain ⟨rfl, rfl, rfl⟩ := hpr
      have HQ := Aside0.mk hq
      clear hq HR
      go_wp2_with (fail)
      (with_reducible refine (call_Right.calls (cutA (upperS a0) 45) 0 true _ (by unfold call_Right.f; rw [if_pos hca, HQ.out])).mono ?_)
      rintro e w3 ⟨rfl, hb3⟩
      have HR3 := Aside0.mk ((hb3.block _ (by simp; omega)).trans ((Below.heap_alloc _ _ _ (by omega)).trans HR2.out))
      have HC3 := Aside0.mk ((hb3.block w2.heap.size (by simp)).trans (heap_alloc_new w2 _))
      obtain ⟨k0, k1, k2, k3⟩ := two_cell HR3.out
      obtain ⟨c0, c1, c2, c3⟩ := two_cell HC3.out
      have HB3 := Aside0.mk (below_then (HB2.out.alloc HB2.out.size _) (by simp; omega) hb3)
      clear hb3
      go_wp2_with (fail)
      refine bodyPost_ret (results_ct rfl _ _ w.heap.size 23 #[.string (cutA (upperS a0) 45), .int .i64 0] (0, 0) _ rfl (two_set HR3.out) Tryd.underlying23 rfl (by kernel_rfl)) rfl ?_
      exact ⟨rfl, (HB3.out.setCell (Nat.le_refl _) _).setCell (Nat.le_refl _) _⟩
    | false =>
      have hpr := HR.out
      rw [show parseS a0 = (⟨#[]⟩, 0, 12) by unfold parseS; rw [HH.out, if_neg (by decide), if_neg (by rw [hq]; decide)]] at hpr
      simp only [Prod.mk.injEq] at hpr
      obtain ⟨rfl, rfl, rfl⟩ := hpr
      have HQ := Aside0.mk hq
      clear hq HR
      go_wp2_with (fail)
      (with_reducible refine (call_Right.calls (cutA (upperS a0) 45) 0 false _ (by unfold call_Right.f; rw [if_pos hca, HQ.out])).mono ?_)
      rintro e w3 ⟨rfl, hb3⟩
      have HR3 := Aside0.mk ((hb3.block _ (by simp; omega)).trans ((Below.heap_alloc _ _ _ (by omega)).trans HR2.out))
      obtain ⟨k0, k1, k2, k3⟩ := two_cell HR3.out
      have HB3 := Aside0.mk (below_then (HB2.out.alloc HB2.out.size _) (by simp; omega) hb3)
      clear hb3
      go_wp2_with (fail)
      refine bodyPost_ret (results_ct rfl _ _ w.heap.size 23 #[.string ⟨#[]⟩, .int .i64 0] (0, 0) _ rfl (two_set HR3.out) Tryd.underlying23 rfl (by kernel_rfl)) rfl ?_
      exact ⟨rfl, (HB3.out.setCell (Nat.le_refl _) _).setCell (Nat.le_refl _) _⟩
  | true =>
    have HH := Aside0.mk hh
    clear hh
    go_wp2_with (fail)
    (with_reducible refine (cut_one (upperS a0) 45 _ (by omega)).mono ?_)
    rw [HH.out]
    rintro e w2 ⟨rfl, hd2⟩
    have hz1 : w.heap.size < w2.heap.size := by have := hb1.size; have := hd2.below.size; simp only [World.size_alloc] at *; omega
    have HB2 := Aside0.mk (show Below w.heap.size w w2 from below_then (below_then ((Below.refl _ _).alloc (Nat.le_refl _) _) (by simp) hb1) (by have := hb1.size; simp only [World.size_alloc] at *; omega) hd2.below)
    have HR2 := Aside0.mk (show w2.heap[w.heap.size]? = some (.cells #[.string ⟨#[]⟩, .int .i64 0] 23 (0, 0)) by
      rw [hd2.below.block _ (by have := hb1.size; simp only [World.size_alloc] at this; omega), hb1.block _ (by simp)]
      exact heap_alloc_new w _)
    clear hb1 hd2
    have HE2 := Aside0.mk (HE.out.below HB2.out)
    cases ha : Lib.atoiAll (cutB (upperS a0) 45).data.toList with
    | ok v =>
      have HA := Aside0.mk ha
      clear ha
      go_wp2_with (fail)
      (refine (Tryd.strconv_Atoi_ok (cutB (upperS a0) 45) (by omega) v HA.out _).mono ?_)
      rintro e w3 ⟨rfl, hw3⟩
      have hb3 : Below (w2.heap.size + 1) (w2.alloc (Obj.cells #[Value.string (cutA (upperS a0) 45), Value.int IntKind.i64 0] 23)) w3 := by
        rcases hw3 with rfl | ⟨t, rfl⟩
        · exact Below.refl _ _
        · exact bytes_below (Below.refl _ _) (by simp) _ _
      clear hw3
      obtain ⟨hv0, hv1⟩ := atoi_bounds HA.out
      have HE3 := Aside0.mk (HE2.out.below (below_then ((Below.refl _ _).alloc (Nat.le_refl _) _) (by simp) (by simpa using hb3)))
      have HR3 := Aside0.mk ((hb3.block _ (by omega)).trans ((Below.heap_alloc _ _ _ (by omega)).trans HR2.out))
      have HC3 := Aside0.mk ((hb3.block w2.heap.size (by omega)).trans (heap_alloc_new w2 _))
      have HB3 := Aside0.mk (below_then (HB2.out.alloc HB2.out.size _) (by simp; omega) (by simpa using hb3))
      have hz3 : w2.heap.size + 1 ≤ w3.heap.size := by have := hb3.size; simpa using this
      clear hb3
      have HV0 := Aside0.mk hv0
      have HV1 := Aside0.mk hv1
      clear hv0 hv1
      cases hi : decide (Lib.itoa v = (cutB (upperS a0) 45).data.toList) with
      | true =>
        have HI := Aside0.mk (of_decide_eq_true hi)
        clear hi
        go_wp2_with (fail)
        refine (Tryd.strconv_Itoa v HV0.out HV1.out _ HE3.out.tab).mono ?_
        rw [HI.out]
        rintro e w4 ⟨rfl, kk, os, hw4⟩
        have hb4 : Below w3.heap.size w3 w4 := by rw [hw4]; exact below_itoa w3 kk os
        clear hw4
        have HR4 := Aside0.mk ((hb4.block _ (by omega)).trans HR3.out)
        have HC4 := Aside0.mk ((hb4.block w2.heap.size (by omega)).trans HC3.out)
        have HB4 := Aside0.mk (below_then HB3.out (by omega) hb4)
        have hz4 := Nat.le_trans hz3 hb4.size
        clear hb4 HR3 HC3 HB3 hz3
        obtain ⟨c0, c1, c2, c3⟩ := two_cell HC4.out
        cases hq : rightB (cutA (upperS a0) 45) v with
        | true =>
          have hpr := HR.out
          rw [show parseS a0 = (cutA (upperS a0) 45, v, 0) by unfold parseS numOf; rw [HH.out, if_pos rfl, HA.out]; simp only [if_pos HI.out, if_pos hq]] at hpr
          simp only [Prod.mk.injEq] at hpr
          obtain ⟨rfl, rfl, rfl⟩ := hpr
          have HQ := Aside0.mk hq
          clear hq HR
          go_wp2_with (fail)
          (with_reducible refine (call_Right.calls (cutA (upperS a0) 45) v true _ (by unfold call_Right.f; rw [if_pos hca, HQ.out])).mono ?_)
          rintro e w5 ⟨rfl, hb5⟩
          have HR5 := Aside0.mk ((hb5.block w.heap.size (by simp [World.setCell]; omega)).trans ((Below.heap_setCell w4 ⟨w2.heap.size, 1, none⟩ (.int .i64 v) w.heap.size (by simp; omega)).trans HR4.out))
          have HC5 := Aside0.mk ((hb5.block w2.heap.size (by simp [World.setCell]; omega)).trans (one_set HC4.out))
          obtain ⟨k0, k1, k2, k3⟩ := two_cell HR5.out
          obtain ⟨d0, d1, d2, d3⟩ := two_cell HC5.out
          have HB5 := Aside0.mk (below_then (HB4.out.setCell (p := ⟨w2.heap.size, 1, none⟩) (show w.heap.size ≤ w2.heap.size by omega) (.int .i64 v)) (by simp [World.setCell]; omega) hb5)
          clear hb5 c0 c1 c2 c3
          go_wp2_with (fail)
          refine bodyPost_ret (results_ct rfl _ _ w.heap.size 23 #[.string (cutA (upperS a0) 45), .int .i64 v] (0, 0) _ rfl (two_set HR5.out) Tryd.underlying23 rfl (by kernel_rfl)) rfl ?_
          exact ⟨rfl, (HB5.out.setCell (Nat.le_refl _) _).setCell (Nat.le_refl _) _⟩
        | false =>
          have hpr := HR.out
          rw [show parseS a0 = (⟨#[]⟩, 0, 12) by unfold parseS numOf; rw [HH.out, if_pos rfl, HA.out]; simp only [if_pos HI.out, hq, Bool.false_eq_true, if_false]] at hpr
          simp only [Prod.mk.injEq] at hpr
          obtain ⟨rfl, rfl, rfl⟩ := hpr
          have HQ := Aside0.mk hq
          clear hq HR
          go_wp2_with (fail)
          (with_reducible refine (call_Right.calls (cutA (upperS a0) 45) v false _ (by unfold call_Right.f; rw [if_pos hca, HQ.out])).mono ?_)
          rintro e w5 ⟨rfl, hb5⟩
          have HR5 := Aside0.mk ((hb5.block w.heap.size (by simp [World.setCell]; omega)).trans ((Below.heap_setCell w4 ⟨w2.heap.size, 1, none⟩ (.int .i64 v) w.heap.size (by simp; omega)).trans HR4.out))
          have HC5 := Aside0.mk ((hb5.block w2.heap.size (by simp [World.setCell]; omega)).trans (one_set HC4.out))
          obtain ⟨k0, k1, k2, k3⟩ := two_cell HR5.out
          obtain ⟨d0, d1, d2, d3⟩ := two_cell HC5.out
          have HB5 := Aside0.mk (below_then (HB4.out.setCell (p := ⟨w2.heap.size, 1, none⟩) (show w.heap.size ≤ w2.heap.size by omega) (.int .i64 v)) (by simp [World.setCell]; omega) hb5)
          clear hb5 c0 c1 c2 c3
          go_wp2_with (fail)
          refine bodyPost_ret (results_ct rfl _ _ w.heap.size 23 #[.string ⟨#[]⟩, .int .i64 0] (0, 0) _ rfl (two_set HR5.out) Tryd.underlying23 rfl (by kernel_rfl)) rfl ?_
          exact ⟨rfl, (HB5.out.setCell (Nat.le_refl _) _).setCell (Nat.le_refl _) _⟩
      | false =>
        have hi' := of_decide_eq_false hi
        have HI := Aside0.mk hi'
        clear hi hi'
        have hpr := HR.out
        rw [show parseS a0 = (⟨#[]⟩, 0, 12) by unfold parseS numOf; rw [HH.out, if_pos rfl, HA.out]; simp only [if_neg HI.out]] at hpr
        simp only [Prod.mk.injEq] at hpr
        obtain ⟨rfl, rfl, rfl⟩ := hpr
        clear HR
        go_wp2_with (fail)
        refine (Tryd.strconv_Itoa v HV0.out HV1.out _ HE3.out.tab).mono ?_
        rintro e w4 ⟨rfl, kk, os, hw4⟩
        have hb4 : Below w3.heap.size w3 w4 := by rw [hw4]; exact below_itoa w3 kk os
        clear hw4
        have HR4 := Aside0.mk ((hb4.block _ (by omega)).trans HR3.out)
        have HB4 := Aside0.mk (below_then HB3.out (by omega) hb4)
        clear hb4 HR3 HC3 HB3
        obtain ⟨k0, k1, k2, k3⟩ := two_cell HR4.out
        have hne : (!Lib.itoa v == (cutB (upperS a0) 45).toList) = true := by rw [Go.ByteArray.toList_eq, beq_eq_false_iff_ne.mpr HI.out]; rfl
        go_wp2_with (fail)
        refine bodyPost_ret (results_ct rfl _ _ w.heap.size 23 #[.string ⟨#[]⟩, .int .i64 0] (0, 0) _ rfl (two_set HR4.out) Tryd.underlying23 rfl (by kernel_rfl)) rfl ?_
        exact ⟨rfl, (HB4.out.setCell (Nat.le_refl _) _).setCell (Nat.le_refl _) _⟩
    | range =>
      have HA := Aside0.mk ha
      clear ha
      have hpr := HR.out
      rw [show parseS a0 = (⟨#[]⟩, 0, 12) by unfold parseS numOf; rw [HH.out, if_pos rfl, HA.out]] at hpr
      simp only [Prod.mk.injEq] at hpr
      obtain ⟨rfl, rfl, rfl⟩ := hpr
      clear HR
      go_wp2_with (fail)
      obtain ⟨ev, he1, he2⟩ := HE2.out.rng
      (refine (Tryd.strconv_Atoi_range (cutB (upperS a0) 45) (by omega) HA.out ev _ (by rw [World.cell?_alloc_lt _ _ _ (World.block_lt_of_cell? _ _ he1)]; exact he1) he2).mono ?_)
      rintro e w3 ⟨N, rfl, hN, hc3, hb3⟩
      have HR3 := Aside0.mk ((hb3.block _ (by simp; omega)).trans ((Below.heap_alloc _ _ _ (by omega)).trans HR2.out))
      have HB3 := Aside0.mk (below_then (HB2.out.alloc HB2.out.size _) (by simp; omega) hb3)
      clear hb3 hc3 he1 he2
      obtain ⟨k0, k1, k2, k3⟩ := two_cell HR3.out
      go_wp2_with (fail)
      refine bodyPost_ret (results_ct rfl _ _ w.heap.size 23 #[.string ⟨#[]⟩, .int .i64 0] (0, 0) _ rfl (two_set HR3.out) Tryd.underlying23 rfl (by kernel_rfl)) rfl ?_
      exact ⟨rfl, (HB3.out.setCell (Nat.le_refl _) _).setCell (Nat.le_refl _) _⟩
    | _ =>
      have HA := Aside0.mk ha
      clear ha
      have hpr := HR.out
      rw [show parseS a0 = (⟨#[]⟩, 0, 12) by unfold parseS numOf; rw [HH.out, if_pos rfl, HA.out]] at hpr
      simp only [Prod.mk.injEq] at hpr
      obtain ⟨rfl, rfl, rfl⟩ := hpr
      clear HR
      go_wp2_with (fail)
      obtain ⟨ev, he1, he2⟩ := HE2.out.syn
      (refine (Tryd.strconv_Atoi_bad (cutB (upperS a0) 45) (by omega) (fun v e => by rw [HA.out] at e; cases e) (fun e => by rw [HA.out] at e; cases e) ev _ (by rw [World.cell?_alloc_lt _ _ _ (World.block_lt_of_cell? _ _ he1)]; exact he1) he2).mono ?_)
      rintro e w3 ⟨N, rfl, hN, hc3, hb3⟩
      have HR3 := Aside0.mk ((hb3.block _ (by simp; omega)).trans ((Below.heap_alloc _ _ _ (by omega)).trans HR2.out))
      have HB3 := Aside0.mk (below_then (HB2.out.alloc HB2.out.size _) (by simp; omega) hb3)
      clear hb3 hc3 he1 he2
      obtain ⟨k0, k1, k2, k3⟩ := two_cell HR3.out
      go_wp2_with (fail)
      refine bodyPost_ret (results_ct rfl _ _ w.heap.size 23 #[.string ⟨#[]⟩, .int .i64 0] (0, 0) _ rfl (two_set HR3.out) Tryd.underlying23 rfl (by kernel_rfl)) rfl ?_
      exact ⟨rfl, (HB3.out.setCell (Nat.le_refl _) _).setCell (Nat.le_refl _) _⟩
end Go.Proofs.YtpmieapgbdbabaaDoor.QAll
end

section
/- Walks, written by a program of this session (wip/pp): a Go function comes to what the Lean function beside it tells. -/
namespace Go.Proofs.YtpmieapgbdbabaaDoor.QAll
open Go.RowKit Go.Proofs.YtpmieapgbdbabaaDoorW.PrintWords Go.Proofs.YtpmieapgbdbabaaDoorW.PrintLast Go.Proofs.YtpmieapgbdbabaaDoorW.PrintMore
set_option linter.unusedVariables false
set_option linter.unusedSimpArgs false

def call_bit.f (a0 : Bool) (a1 : Int) : Option (Int) := if a0 = true then (some a1) else (some 0)
set_option maxHeartbeats 8000000 in
set_option maxRecDepth 100000 in
theorem call_bit.calls (a0 : Bool) (a1 : Int) (r : Int) (w : World) (h : call_bit.f a0 a1 = some r) :
  Calls Tryd.prog 83 #[.bool a0, .int .u8 a1] w fun e w' => e = .returned (.int .u8 r) ∧ Drawn0 w w' := by
 have H : (if a0 = true then (some a1) else (some 0)) = some r := h
 clear h
 by_cases c3 : a0 = true
 ·subst c3
  have H1 : (some a1) = some r := by rw [if_pos rfl] at H; exact H
  clear H
  have H := H1
  clear H1
  obtain rfl := Option.some.inj H
  go_enter Tryd.func83, Tryd.ntmps83
  go_wp2
  go_ret
  exact ⟨by first | rfl | (simp; done) | (simp [*]; done) | (simp; exact (fun l : List UInt8 => (by cases l <;> rfl : l.isEmpty = !(l != []))) _), by repeat (first | exact Drawn0.refl _ | apply Drawn0.step)⟩
 ·replace c3 := Bool.eq_false_iff.mpr c3
  subst c3
  have H1 : (some 0) = some r := by rw [if_neg (show ¬ (false = true) by decide)] at H; exact H
  clear H
  have H := H1
  clear H1
  obtain rfl := Option.some.inj H
  go_enter Tryd.func83, Tryd.ntmps83
  go_wp2
  go_ret
  exact ⟨by first | rfl | (simp; done) | (simp [*]; done) | (simp; exact (fun l : List UInt8 => (by cases l <;> rfl : l.isEmpty = !(l != []))) _), by repeat (first | exact Drawn0.refl _ | apply Drawn0.step)⟩

end Go.Proofs.YtpmieapgbdbabaaDoor.QAll
end

section
/- call.Put, walked by hand: the seven bytes of a right call, or none and ErrCall, for every call. -/
set_option linter.unusedVariables false
set_option linter.unusedSimpArgs false
namespace Go.Proofs.YtpmieapgbdbabaaDoor.QAll
open Go.RowKit Go.Proofs.YtpmieapgbdbabaaDoorW.PrintWords Go.Proofs.YtpmieapgbdbabaaDoorW.PrintLast Go.Proofs.YtpmieapgbdbabaaDoorW.PrintMore

/-- The i-th letter's byte. -/
def putAt (s : ByteArray) (i : Nat) : Int := if i < s.size then bt s i * 2 else 64
/-- The last byte. -/
def putEnd (n : Int) (mark last : Bool) : Int := (if mark = true then 128 else 0) + 96 + 2 * n + (if last = true then 1 else 0)
def putL (s : ByteArray) (n : Int) (mark last : Bool) : List Int := [putAt s 0, putAt s 1, putAt s 2, putAt s 3, putAt s 4, putAt s 5, putEnd n mark last]
def call_Put.f (a0_0 : ByteArray) (a0_1 : Int) (a1 a2 : Bool) : Option (ByteArray × Int) :=
  if a0_0.size ≤ 9223372036854775807 then (if rightB a0_0 a0_1 = true then some (strOfNums (putL a0_0 a0_1 a1 a2), 0) else some (⟨#[]⟩, 12)) else none

/-- Behind k rounds: the array in block B. -/
def PutAt (s : ByteArray) (B k : Nat) (w : World) : Prop := ∃ cur, w.heap[B]? = some (.cells cur 128 (0, 0)) ∧ cur.size = 7 ∧ ∀ j : Nat, j < k → cur[j]? = some (.int .u8 (putAt s j))
theorem PutAt.cell {s : ByteArray} {B k : Nat} {w : World} (h : PutAt s B k w) (j : Nat) (hj : j < 7) : ∃ v, w.cell? ⟨B, j, none⟩ = some v := by
  obtain ⟨cur, hb, hm, hc⟩ := h
  simp only [World.cell?, hb]
  exact ⟨cur[j]'(by omega), Array.getElem?_eq_getElem (by omega)⟩
theorem PutAt.frozen {s : ByteArray} {B k : Nat} {w : World} (h : PutAt s B k w) (j : Nat) : w.frozen? ⟨B, j, none⟩ = false := by
  obtain ⟨cur, hb, hm, hc⟩ := h
  simp [World.frozen?, hb]
theorem PutAt.store {s : ByteArray} {B k : Nat} {w : World} (h : PutAt s B k w) (hk : k < 7) (x : Int) (hx : x = putAt s k) : PutAt s B (k + 1) (w.setCell ⟨B, k, none⟩ (.int .u8 x)) := by
  obtain ⟨cur, hb, hm, hc⟩ := h
  refine ⟨cur.setIfInBounds k (.int .u8 x), ?_, by simpa using hm, fun j hj => ?_⟩
  · simp [World.setCell, Array.getElem?_modify, hb]
  · rw [Array.getElem?_setIfInBounds]
    by_cases e : k = j
    · subst e
      rw [if_pos rfl, if_pos (by omega), hx]
    · rw [if_neg e, hc j (by omega)]
theorem PutAt.set {s : ByteArray} {B k : Nat} {w : World} (h : PutAt s B k w) (x : Value) : PutAt s B k (w.setCell ⟨B, k, none⟩ x) := by
  obtain ⟨cur, hb, hm, hc⟩ := h
  refine ⟨cur.setIfInBounds k x, ?_, by simpa using hm, fun j hj => ?_⟩
  · simp [World.setCell, Array.getElem?_modify, hb]
  · rw [Array.getElem?_setIfInBounds, if_neg (by omega), hc j hj]
theorem PutAt.drewN {s : ByteArray} {B k : Nat} {w : World} (h : PutAt s B k w) (n : Nat) : PutAt s B k (w.drewN n) := h
theorem lets_le {s : ByteArray} {n : Int} (h : rightB s n = true) (k : Nat) (hk : k < s.size) : 48 ≤ bt s k ∧ bt s k ≤ 90 := by
  unfold rightB letsB at h
  simp only [Bool.and_eq_true, List.all_eq_true] at h
  have := h.1 _ (List.getElem_mem (by simpa using hk : k < s.data.toList.length))
  rw [← bt_data s k hk] at this
  unfold letB at this
  simp only [decide_eq_true_eq] at this
  omega
theorem right_lens {s : ByteArray} {n : Int} (h : rightB s n = true) : 1 ≤ s.size ∧ s.size ≤ 6 ∧ 0 ≤ n ∧ n ≤ 15 := by
  unfold rightB at h
  simpa using (by simpa using h : _ ∧ _).2

def bitI (b : Bool) (v : Int) : Int := if b = true then v else 0
theorem bit_any (b : Bool) (v : Int) (w : World) : Calls Tryd.prog 83 #[.bool b, .int .u8 v] w fun e w' => e = .returned (.int .u8 (bitI b v)) ∧ Drawn0 w w' :=
  call_bit.calls b v (bitI b v) w (by unfold call_bit.f bitI; cases b <;> rfl)
theorem PutAt.list {s : ByteArray} {B : Nat} {w : World} {x : Int} {n : Int} {m l : Bool} (h : PutAt s B 6 w) (hx : x = putEnd n m l) (j : Nat) (hj : j < 7) :
    (w.setCell ⟨B, 6, none⟩ (.int .u8 x)).cell? ⟨B, 0 + j, none⟩ = some (.int .u8 ((putL s n m l).getD j 0)) := by
  obtain ⟨cur, hb, hm, hc⟩ := h
  have hb2 : (w.setCell ⟨B, 6, none⟩ (.int .u8 x)).heap[B]? = some (.cells (cur.setIfInBounds 6 (.int .u8 x)) 128 (0, 0)) := by simp [World.setCell, Array.getElem?_modify, hb]
  simp only [World.cell?, hb2]
  show (cur.setIfInBounds 6 (.int .u8 x))[0 + j]? = _
  rw [Nat.zero_add, Array.getElem?_setIfInBounds]
  by_cases e : 6 = j
  · subst e; rw [if_pos rfl, if_pos (by omega), hx]; rfl
  · rw [if_neg e, hc j (by omega)]
    have : j = 0 ∨ j = 1 ∨ j = 2 ∨ j = 3 ∨ j = 4 ∨ j = 5 := by omega
    rcases this with rfl | rfl | rfl | rfl | rfl | rfl <;> rfl
theorem end_wrap (n : Int) (h0 : 0 ≤ n) (h1 : n ≤ 15) (m l : Bool) : Go.bits .or .u8 (Go.bits .or .u8 (Go.bits .or .u8 (bitI m 128) 96) (n * 2)) (bitI l 1) = putEnd n m l := by
  have h : ∀ n : Fin 16, ∀ m l : Bool, Go.bits .or .u8 (Go.bits .or .u8 (Go.bits .or .u8 (bitI m 128) 96) ((n.val : Int) * 2)) (bitI l 1) = putEnd n.val m l := by decide
  have := h ⟨n.toNat, by omega⟩ m l
  rw [show ((⟨n.toNat, by omega⟩ : Fin 16).val : Int) = n by simp; omega] at this
  exact this
set_option maxHeartbeats 1000000 in
set_option maxRecDepth 100000 in
theorem call_Put.calls (a0_0 : ByteArray) (a0_1 : Int) (a1 a2 : Bool) (r1 : ByteArray) (r2 : Int) (w : World) (h : call_Put.f a0_0 a0_1 a1 a2 = some (r1, r2)) :
    Calls Tryd.prog 52 #[.agg #[.string a0_0, .int .i64 a0_1], .bool a1, .bool a2] w fun e w' => e = .returned (.tuple #[.string r1, .int .i64 r2]) ∧ Below w.heap.size w w' := by
  unfold call_Put.f at h
  split at h
  case isFalse => exact absurd h (by simp)
  rename_i hs
  have hu23 := Tryd.underlying23
  split at h
  · rename_i hr
    have HQ := Aside0.mk hr
    simp only [Option.some.injEq, Prod.mk.injEq] at h
    obtain ⟨rfl, rfl⟩ := h
    clear hr
    go_enter Tryd.func52, Tryd.ntmps52
    go_wp2_with (go_at_call 40; (with_reducible refine (call_Right.calls a0_0 a0_1 true _ (by unfold call_Right.f; rw [if_pos hs, HQ.out])).mono ?_); rintro e w1 ⟨rfl, hb⟩)
    have hz := hb.size
    simp only [World.size_alloc] at hz
    have HB := Aside0.mk (show Below w.heap.size w w1 from below_then ((Below.refl _ _).alloc (Nat.le_refl _) _) (by simp) hb)
    have hc0 : w1.cell? ⟨w.heap.size, 0, none⟩ = some (.string a0_0) := by rw [hb.cell (by simp)]; simp
    have hc1 : w1.cell? ⟨w.heap.size, 1, none⟩ = some (.int .i64 a0_1) := by rw [hb.cell (by simp)]; simp
    clear hb
    have hne : ∀ i j : Nat, (⟨w1.heap.size, i, none⟩ : Addr) ≠ ⟨w.heap.size, j, none⟩ := fun i j e => by injection e; omega
    have HNE := Aside0.mk hne
    clear hne
    go_loopw [13] (fun i wr => ∃ k : Nat, k ≤ 6 ∧ i = .int .i64 k ∧ Aside0 (PutAt a0_0 w1.heap.size k wr) ∧ Aside0 (Below w.heap.size w wr) ∧ (wr.cell? ⟨w.heap.size, 0, none⟩ = some (.string a0_0)) ∧ (wr.cell? ⟨w.heap.size, 1, none⟩ = some (.int .i64 a0_1)))
      (fun i _ => 6 - (intOf i).toNat)
    case atStart =>
      refine ⟨0, by omega, rfl, ⟨⟨_, heap_alloc_new w1 _, rfl, fun j hj => absurd hj (by omega)⟩⟩, ⟨HB.out.alloc HB.out.size _⟩, ?_, ?_⟩
      · rw [World.cell?_alloc_lt w1 _ _ (show w.heap.size < w1.heap.size by omega)]; exact hc0
      · rw [World.cell?_alloc_lt w1 _ _ (show w.heap.size < w1.heap.size by omega)]; exact hc1
    case round =>
      clear hc0 hc1 HB
      obtain ⟨k, hk, rfl, HU, HB, hc0, hc1⟩ := hrel
      by_cases hlt : k < 6
      · obtain ⟨v0, hcell⟩ := HU.out.cell k (by omega)
        have hfz := HU.out.frozen k
        by_cases hin : k < a0_0.size
        · have hx : ∀ h : k < a0_0.size, ((a0_0[k]'h).toNat : Int) = bt a0_0 k := fun h => bt_at a0_0 k h
          have hb2 := lets_le HQ.out k hin
          have HX := Aside0.mk (show bt a0_0 k * 2 = putAt a0_0 k by unfold putAt; rw [if_pos hin])
          go_wp2
          go_roundw
          case rel =>
            refine ⟨k + 1, by omega, by go_num, ⟨(HU.out.set _).store (by omega) _ HX.out⟩, ⟨(HB.out.setCell (by simp; omega) _).setCell (by simp; omega) _⟩, ?_, ?_⟩
            · rw [World.cell?_setCell_other _ _ _ _ (HNE.out _ _), World.cell?_setCell_other _ _ _ _ (HNE.out _ _)]; exact hc0
            · rw [World.cell?_setCell_other _ _ _ _ (HNE.out _ _), World.cell?_setCell_other _ _ _ _ (HNE.out _ _)]; exact hc1
          case measure => simp [intOf]; omega
        · have HX := Aside0.mk (show 64 = putAt a0_0 k by unfold putAt; rw [if_neg hin])
          go_wp2
          go_roundw
          case rel =>
            refine ⟨k + 1, by omega, by go_num, ⟨HU.out.store (by omega) _ HX.out⟩, ⟨HB.out.setCell (by simp; omega) _⟩, ?_, ?_⟩
            · rw [World.cell?_setCell_other _ _ _ _ (HNE.out _ _)]; exact hc0
            · rw [World.cell?_setCell_other _ _ _ _ (HNE.out _ _)]; exact hc1
          case measure => simp [intOf]; omega
      · obtain rfl : k = 6 := by omega
        obtain ⟨v0, hcell⟩ := HU.out.cell 6 (by omega)
        have hfz := HU.out.frozen 6
        have hn0 := (right_lens HQ.out).2.2.1
        have hn15 := (right_lens HQ.out).2.2.2
        have HN0 := Aside0.mk hn0
        have HN15 := Aside0.mk hn15
        go_wp2_with (fail)
        have HE := Aside0.mk (end_wrap a0_1 HN0.out HN15.out a1 a2)
        have hcv := fun (n : Nat) => run_convert_bytes_arg (P := Tryd.prog) ((wr.drewN n).setCell ⟨w1.heap.size, 6, none⟩ (.int .u8 (bits BinOp.or IntKind.u8 (bits BinOp.or IntKind.u8 (bits BinOp.or IntKind.u8 (bitI a1 128) 96) (a0_1 * 2)) (bitI a2 1)))) 104 5 Tryd.underlying104 Tryd.underlying5 w1.heap.size 0 7 7 (putL a0_0 a0_1 a1 a2) rfl
          (fun j hj => (HU.out.drewN n).list HE.out j hj) 9 Tryd.underlying9
        go_region_with ((go_at_call 83; (with_reducible refine (bit_any _ _ _).mono ?_); rintro e w' ⟨rfl, ⟨nd, rfl⟩⟩))
        all_goals (go_wp2; go_ret2; exact ⟨rfl, (pw_below_drewN HB.out _).setCell (show w.heap.size ≤ w1.heap.size by omega) _⟩)
  · rename_i hr
    have HQ := Aside0.mk (show rightB a0_0 a0_1 = false by simpa using hr)
    simp only [Option.some.injEq, Prod.mk.injEq] at h
    obtain ⟨rfl, rfl⟩ := h
    clear hr
    go_enter Tryd.func52, Tryd.ntmps52
    go_wp2_with (go_at_call 40; (with_reducible refine (call_Right.calls a0_0 a0_1 false _ (by unfold call_Right.f; rw [if_pos hs, HQ.out])).mono ?_); rintro e w1 ⟨rfl, hb⟩)
    go_ret2
    exact ⟨rfl, below_then ((Below.refl _ _).alloc (Nat.le_refl _) _) (by simp) hb⟩
end Go.Proofs.YtpmieapgbdbabaaDoor.QAll
end

section
/- Walks, written by a program of this session (wip/pp): a Go function comes to what the Lean function beside it tells. -/
namespace Go.Proofs.YtpmieapgbdbabaaDoor.QAll
open Go.RowKit Go.Proofs.YtpmieapgbdbabaaDoorW.PrintWords Go.Proofs.YtpmieapgbdbabaaDoorW.PrintLast Go.Proofs.YtpmieapgbdbabaaDoorW.PrintMore
set_option linter.unusedVariables false
set_option linter.unusedSimpArgs false

attribute [local go_sem high] eqA23
def squelchlaw04_awake.f  : Option (Bool) := (call_Parse.f (⟨#[110, 48, 99, 97, 108, 108, 45, 55]⟩ : ByteArray)).bind fun bt402 => ((call_Put.f bt402.1 bt402.2.1 false false).bind fun bt406 => (if bt402.2.2 = 0 then (if (bt402.1.toList == ([78, 48, 67, 65, 76, 76] : List UInt8) && (bt402.2.1 == 7)) = true then (if bt406.2 = 0 then (if (bt406.1.size : Int) = 7 then (if 6 < (bt406.1.size : Int) then (some ((bt bt406.1 6) == 110)) else (none)) else (some false)) else (some false)) else (some false)) else (some false)))
set_option maxHeartbeats 8000000 in
set_option maxRecDepth 100000 in
theorem squelchlaw04_awake.calls  (r : Bool) (w : World) (hE_ : EnvW w) (h : squelchlaw04_awake.f  = some r) :
  Calls Tryd.prog 36 #[] w fun e w' => e = .returned (.bool r) ∧ Below w.heap.size w w' := by
 have hu23 := Tryd.underlying23
 have HB := Aside0.mk (Below.refl w.heap.size w)
 have HE := Aside0.mk hE_
 clear hE_
 have H : ((call_Parse.f (⟨#[110, 48, 99, 97, 108, 108, 45, 55]⟩ : ByteArray)).bind fun bt402 => ((call_Put.f bt402.1 bt402.2.1 false false).bind fun bt406 => (if bt402.2.2 = 0 then (if (bt402.1.toList == ([78, 48, 67, 65, 76, 76] : List UInt8) && (bt402.2.1 == 7)) = true then (if bt406.2 = 0 then (if (bt406.1.size : Int) = 7 then (if 6 < (bt406.1.size : Int) then (some ((bt bt406.1 6) == 110)) else (none)) else (some false)) else (some false)) else (some false)) else (some false)))) = some r := h
 clear h
 replace H := Option.bind_eq_some_iff.mp H
 obtain ⟨⟨t402, t403, t404⟩, A10, H⟩ := H
 replace H : ((call_Put.f t402 t403 false false).bind fun bt406 => (if t404 = 0 then (if (t402.toList == ([78, 48, 67, 65, 76, 76] : List UInt8) && (t403 == 7)) = true then (if bt406.2 = 0 then (if (bt406.1.size : Int) = 7 then (if 6 < (bt406.1.size : Int) then (some ((bt bt406.1 6) == 110)) else (none)) else (some false)) else (some false)) else (some false)) else (some false))) = some r := H
 have A1 := Aside0.mk A10
 clear A10
 replace H := Option.bind_eq_some_iff.mp H
 obtain ⟨⟨t406, t407⟩, A20, H⟩ := H
 replace H : (if t404 = 0 then (if (t402.toList == ([78, 48, 67, 65, 76, 76] : List UInt8) && (t403 == 7)) = true then (if t407 = 0 then (if (t406.size : Int) = 7 then (if 6 < (t406.size : Int) then (some ((bt t406 6) == 110)) else (none)) else (some false)) else (some false)) else (some false)) else (some false)) = some r := H
 have A2 := Aside0.mk A20
 clear A20
 by_cases c3 : t404 = 0
 ·rw [if_pos c3] at H
  have c3b0 : (t404 == 0) = true := beq_iff_eq.mpr c3
  have c3b1 : (t404 != 0) = false := bne_eq_false_iff_eq.mpr c3
  clear c3
  by_cases c4 : (t402.toList == ([78, 48, 67, 65, 76, 76] : List UInt8) && (t403 == 7)) = true
  ·rw [if_pos c4] at H
   have c4b0 : (t402.toList == ([78, 48, 67, 65, 76, 76] : List UInt8) && (t403 == 7)) = true := c4
   (try (have c4b1 : decide (t402.toList = ([78, 48, 67, 65, 76, 76] : List UInt8) && (t403 == 7)) = true := by simpa using c4))
   (try (have c4b2 : (t402.toList == ([78, 48, 67, 65, 76, 76] : List UInt8) && (t403 == 7)) = true := by simpa using c4))
   clear c4
   by_cases c5 : t407 = 0
   ·rw [if_pos c5] at H
    have c5b0 : (t407 == 0) = true := beq_iff_eq.mpr c5
    have c5b1 : (t407 != 0) = false := bne_eq_false_iff_eq.mpr c5
    clear c5
    by_cases c6 : (t406.size : Int) = 7
    ·rw [if_pos c6] at H
     have c6b0 : ((t406.size : Int) == 7) = true := beq_iff_eq.mpr c6
     have c6b1 : ((t406.size : Int) != 7) = false := bne_eq_false_iff_eq.mpr c6
     clear c6
     by_cases c7 : 6 < (t406.size : Int)
     ·rw [if_pos c7] at H
      have c7b0 : decide (6 < (t406.size : Int)) = true := decide_eq_true c7
      have c7b1 : decide (6 < t406.size) = true := decide_eq_true (by omega)
      clear c7
      obtain rfl := Option.some.inj H
      go_enter Tryd.func36, Tryd.ntmps36
      go_wp2_with (first | ((with_reducible refine gate_callee (f := 42) rfl ?_); refine goesL_ (some 6) rfl rfl Tryd.func42 (by kernel_rfl) rfl #[.string (⟨#[110, 48, 99, 97, 108, 108, 45, 55]⟩ : ByteArray)] rfl (by (try simp only [List.map_toArray, List.map_cons, List.map_nil]); first | done | rfl | (simp only [List.length_drop, List.length_take]; rfl)) ?_; (with_reducible refine (call_Parse.calls (⟨#[110, 48, 99, 97, 108, 108, 45, 55]⟩ : ByteArray) t402 t403 t404 _ ?side1 A1.out).mono ?_); (case side1 => exact EnvW.below HE.out (by repeat (first | (with_reducible first | exact HB.out | apply below_alloc | apply pw_below_drewN | apply below_drew1) | exact HB.out))); rintro e w9 ⟨rfl, hb⟩; refine ⟨_, rfl, ?_⟩; have n0_ := Aside0.mk (below_step (by repeat (first | (with_reducible first | exact HB.out | apply below_alloc | apply pw_below_drewN | apply below_drew1) | exact HB.out)) hb); clear HB; have HB := n0_; clear n0_; (try clear hb); (try clear hb2); (try clear hk); (try clear hi)) | ((with_reducible refine gate_dst (N := 1) rfl ?_); (try (refine gate_guard (by rfl) ?_; dsimp only)); refine box_event ?hg (N := 1) ?hd (cs := #[.string (⟨#[]⟩ : ByteArray), .int .i64 0]) (t := 23) ?hr ?_; (case hd => rfl); (case hg => rfl); (case hr => first | (go_simp; done) | (go_simp; rfl)); intro gb405 hg w10 hbox hb; have n0_ := Aside0.mk (below_step (by repeat (first | (with_reducible first | exact HB.out | apply below_alloc | apply pw_below_drewN | apply below_drew1) | exact HB.out)) hb); have n1_ := Aside0.mk (hbox); have n2_ := Aside0.mk ((by rw [hg]; exact (below_size (by repeat (first | (with_reducible first | exact HB.out | apply below_alloc | apply pw_below_drewN | apply below_drew1) | exact HB.out))) : w.heap.size ≤ gb405)); have n3_ := Aside0.mk ((by rw [hg]; exact (below_size (by repeat (first | (with_reducible first | exact HB.out | apply below_alloc | apply pw_below_drewN | apply below_drew1) | exact HB.out))) : w.heap.size ≤ gb405)); clear HB; have HB := n0_; have BK405 := n1_; have GW405 := n2_; have GE405 := n3_; clear n0_ n1_ n2_ n3_; clear hb hbox hg; have hcz11_0 : w10.cell? ⟨gb405, 0, none⟩ = some (.string (⟨#[]⟩ : ByteArray)) := (blk_cell BK405.out 0).trans rfl; have hcz11_1 : w10.cell? ⟨gb405, 1, none⟩ = some (.int .i64 0) := (blk_cell BK405.out 1).trans rfl; have hfz11_0 := blk_frozen BK405.out 0; have hfz11_1 := blk_frozen BK405.out 1) | ((with_reducible refine gate_callee (f := 52) rfl ?_); refine goesL_ (some 11) rfl rfl Tryd.func52 (by kernel_rfl) rfl #[.agg #[.string t402, .int .i64 t403], .bool false, .bool false] rfl (by (try simp only [List.map_toArray, List.map_cons, List.map_nil]); first | done | rfl | (simp only [List.length_drop, List.length_take]; rfl)) ?_; (with_reducible refine (call_Put.calls t402 t403 false false t406 t407 _ A2.out).mono ?_); rintro e w12 ⟨rfl, hb⟩; refine ⟨_, rfl, ?_⟩; have n0_ := Aside0.mk (blk_below (g := gb405) (o := .cells #[.string t402, .int .i64 t403] 23 (0, 0)) (by (with_reducible repeat (first | refine blk_drewN ?_ _ | refine blk_drew ?_ | refine blk_alloc ?_ _)); refine blk_put (cs := #[.string t402, .int .i64 0]) ?_ 1 _ rfl; (with_reducible repeat (first | refine blk_drewN ?_ _ | refine blk_drew ?_ | refine blk_alloc ?_ _)); refine blk_put (cs := #[.string (⟨#[]⟩ : ByteArray), .int .i64 0]) ?_ 0 _ rfl; (with_reducible repeat (first | refine blk_drewN ?_ _ | refine blk_drew ?_ | refine blk_alloc ?_ _)); exact BK405.out) hb); have n1_ := Aside0.mk (below_step (by repeat (first | (with_reducible first | exact HB.out | apply below_alloc | apply pw_below_drewN | apply below_drew1 | refine below_set ?_ GE405.out) | exact HB.out)) hb); clear BK405; clear HB; have BK405 := n0_; have HB := n1_; clear n0_ n1_; (try clear hb); (try clear hb2); (try clear hk); (try clear hi); have hcz13_0 : w12.cell? ⟨gb405, 0, none⟩ = some (.string t402) := (blk_cell BK405.out 0).trans rfl; have hcz13_1 : w12.cell? ⟨gb405, 1, none⟩ = some (.int .i64 t403) := (blk_cell BK405.out 1).trans rfl; have hfz13_0 := blk_frozen BK405.out 0; have hfz13_1 := blk_frozen BK405.out 1; have p8 : 0 ≤ (6 : Int) := (by omega); have q8 : 6 < t406.size := (by have : (6 : Int) < (t406.size : Int) := of_decide_eq_true (by first | (with_reducible assumption) | assumption); omega); have hx8 : ∀ h : 6 < t406.size, ((t406[6]'h).toNat : Int) = bt t406 6 := bt_at t406 6; clear p8; have qi8 : (6 < (t406.size : Int)) = True := eq_true (of_decide_eq_true (by first | (with_reducible assumption) | assumption)); replace q8 := eq_true q8))
      go_ret
      exact ⟨by first | rfl | (simp [errW_none, errW_some] <;> rfl) | (simp [*, errW_none, errW_some] <;> rfl), by repeat (first | (with_reducible first | exact HB.out | apply below_alloc | apply pw_below_drewN | apply below_drew1 | refine below_set ?_ GE405.out) | exact HB.out)⟩
     ·rw [if_neg c7] at H
      exact absurd H (by simp)
    ·rw [if_neg c6] at H
     have c6b0 : ((t406.size : Int) == 7) = false := beq_eq_false_iff_ne.mpr c6
     have c6b1 : ((t406.size : Int) != 7) = true := bne_iff_ne.mpr c6
     obtain rfl := Option.some.inj H
     go_enter Tryd.func36, Tryd.ntmps36
     go_wp2_with (first | ((with_reducible refine gate_callee (f := 42) rfl ?_); refine goesL_ (some 6) rfl rfl Tryd.func42 (by kernel_rfl) rfl #[.string (⟨#[110, 48, 99, 97, 108, 108, 45, 55]⟩ : ByteArray)] rfl (by (try simp only [List.map_toArray, List.map_cons, List.map_nil]); first | done | rfl | (simp only [List.length_drop, List.length_take]; rfl)) ?_; (with_reducible refine (call_Parse.calls (⟨#[110, 48, 99, 97, 108, 108, 45, 55]⟩ : ByteArray) t402 t403 t404 _ ?side1 A1.out).mono ?_); (case side1 => exact EnvW.below HE.out (by repeat (first | (with_reducible first | exact HB.out | apply below_alloc | apply pw_below_drewN | apply below_drew1) | exact HB.out))); rintro e w14 ⟨rfl, hb⟩; refine ⟨_, rfl, ?_⟩; have n0_ := Aside0.mk (below_step (by repeat (first | (with_reducible first | exact HB.out | apply below_alloc | apply pw_below_drewN | apply below_drew1) | exact HB.out)) hb); clear HB; have HB := n0_; clear n0_; (try clear hb); (try clear hb2); (try clear hk); (try clear hi)) | ((with_reducible refine gate_dst (N := 1) rfl ?_); (try (refine gate_guard (by rfl) ?_; dsimp only)); refine box_event ?hg (N := 1) ?hd (cs := #[.string (⟨#[]⟩ : ByteArray), .int .i64 0]) (t := 23) ?hr ?_; (case hd => rfl); (case hg => rfl); (case hr => first | (go_simp; done) | (go_simp; rfl)); intro gb405 hg w15 hbox hb; have n0_ := Aside0.mk (below_step (by repeat (first | (with_reducible first | exact HB.out | apply below_alloc | apply pw_below_drewN | apply below_drew1) | exact HB.out)) hb); have n1_ := Aside0.mk (hbox); have n2_ := Aside0.mk ((by rw [hg]; exact (below_size (by repeat (first | (with_reducible first | exact HB.out | apply below_alloc | apply pw_below_drewN | apply below_drew1) | exact HB.out))) : w.heap.size ≤ gb405)); have n3_ := Aside0.mk ((by rw [hg]; exact (below_size (by repeat (first | (with_reducible first | exact HB.out | apply below_alloc | apply pw_below_drewN | apply below_drew1) | exact HB.out))) : w.heap.size ≤ gb405)); clear HB; have HB := n0_; have BK405 := n1_; have GW405 := n2_; have GE405 := n3_; clear n0_ n1_ n2_ n3_; clear hb hbox hg; have hcz16_0 : w15.cell? ⟨gb405, 0, none⟩ = some (.string (⟨#[]⟩ : ByteArray)) := (blk_cell BK405.out 0).trans rfl; have hcz16_1 : w15.cell? ⟨gb405, 1, none⟩ = some (.int .i64 0) := (blk_cell BK405.out 1).trans rfl; have hfz16_0 := blk_frozen BK405.out 0; have hfz16_1 := blk_frozen BK405.out 1) | ((with_reducible refine gate_callee (f := 52) rfl ?_); refine goesL_ (some 11) rfl rfl Tryd.func52 (by kernel_rfl) rfl #[.agg #[.string t402, .int .i64 t403], .bool false, .bool false] rfl (by (try simp only [List.map_toArray, List.map_cons, List.map_nil]); first | done | rfl | (simp only [List.length_drop, List.length_take]; rfl)) ?_; (with_reducible refine (call_Put.calls t402 t403 false false t406 t407 _ A2.out).mono ?_); rintro e w17 ⟨rfl, hb⟩; refine ⟨_, rfl, ?_⟩; have n0_ := Aside0.mk (blk_below (g := gb405) (o := .cells #[.string t402, .int .i64 t403] 23 (0, 0)) (by (with_reducible repeat (first | refine blk_drewN ?_ _ | refine blk_drew ?_ | refine blk_alloc ?_ _)); refine blk_put (cs := #[.string t402, .int .i64 0]) ?_ 1 _ rfl; (with_reducible repeat (first | refine blk_drewN ?_ _ | refine blk_drew ?_ | refine blk_alloc ?_ _)); refine blk_put (cs := #[.string (⟨#[]⟩ : ByteArray), .int .i64 0]) ?_ 0 _ rfl; (with_reducible repeat (first | refine blk_drewN ?_ _ | refine blk_drew ?_ | refine blk_alloc ?_ _)); exact BK405.out) hb); have n1_ := Aside0.mk (below_step (by repeat (first | (with_reducible first | exact HB.out | apply below_alloc | apply pw_below_drewN | apply below_drew1 | refine below_set ?_ GE405.out) | exact HB.out)) hb); clear BK405; clear HB; have BK405 := n0_; have HB := n1_; clear n0_ n1_; (try clear hb); (try clear hb2); (try clear hk); (try clear hi); have hcz18_0 : w17.cell? ⟨gb405, 0, none⟩ = some (.string t402) := (blk_cell BK405.out 0).trans rfl; have hcz18_1 : w17.cell? ⟨gb405, 1, none⟩ = some (.int .i64 t403) := (blk_cell BK405.out 1).trans rfl; have hfz18_0 := blk_frozen BK405.out 0; have hfz18_1 := blk_frozen BK405.out 1))
     go_ret
     exact ⟨by first | rfl | (simp [errW_none, errW_some] <;> rfl) | (simp [*, errW_none, errW_some] <;> rfl), by repeat (first | (with_reducible first | exact HB.out | apply below_alloc | apply pw_below_drewN | apply below_drew1 | refine below_set ?_ GE405.out) | exact HB.out)⟩
   ·rw [if_neg c5] at H
    have c5b0 : (t407 == 0) = false := beq_eq_false_iff_ne.mpr c5
    have c5b1 : (t407 != 0) = true := bne_iff_ne.mpr c5
    obtain rfl := Option.some.inj H
    go_enter Tryd.func36, Tryd.ntmps36
    go_wp2_with (first | ((with_reducible refine gate_callee (f := 42) rfl ?_); refine goesL_ (some 6) rfl rfl Tryd.func42 (by kernel_rfl) rfl #[.string (⟨#[110, 48, 99, 97, 108, 108, 45, 55]⟩ : ByteArray)] rfl (by (try simp only [List.map_toArray, List.map_cons, List.map_nil]); first | done | rfl | (simp only [List.length_drop, List.length_take]; rfl)) ?_; (with_reducible refine (call_Parse.calls (⟨#[110, 48, 99, 97, 108, 108, 45, 55]⟩ : ByteArray) t402 t403 t404 _ ?side1 A1.out).mono ?_); (case side1 => exact EnvW.below HE.out (by repeat (first | (with_reducible first | exact HB.out | apply below_alloc | apply pw_below_drewN | apply below_drew1) | exact HB.out))); rintro e w19 ⟨rfl, hb⟩; refine ⟨_, rfl, ?_⟩; have n0_ := Aside0.mk (below_step (by repeat (first | (with_reducible first | exact HB.out | apply below_alloc | apply pw_below_drewN | apply below_drew1) | exact HB.out)) hb); clear HB; have HB := n0_; clear n0_; (try clear hb); (try clear hb2); (try clear hk); (try clear hi)) | ((with_reducible refine gate_dst (N := 1) rfl ?_); (try (refine gate_guard (by rfl) ?_; dsimp only)); refine box_event ?hg (N := 1) ?hd (cs := #[.string (⟨#[]⟩ : ByteArray), .int .i64 0]) (t := 23) ?hr ?_; (case hd => rfl); (case hg => rfl); (case hr => first | (go_simp; done) | (go_simp; rfl)); intro gb405 hg w20 hbox hb; have n0_ := Aside0.mk (below_step (by repeat (first | (with_reducible first | exact HB.out | apply below_alloc | apply pw_below_drewN | apply below_drew1) | exact HB.out)) hb); have n1_ := Aside0.mk (hbox); have n2_ := Aside0.mk ((by rw [hg]; exact (below_size (by repeat (first | (with_reducible first | exact HB.out | apply below_alloc | apply pw_below_drewN | apply below_drew1) | exact HB.out))) : w.heap.size ≤ gb405)); have n3_ := Aside0.mk ((by rw [hg]; exact (below_size (by repeat (first | (with_reducible first | exact HB.out | apply below_alloc | apply pw_below_drewN | apply below_drew1) | exact HB.out))) : w.heap.size ≤ gb405)); clear HB; have HB := n0_; have BK405 := n1_; have GW405 := n2_; have GE405 := n3_; clear n0_ n1_ n2_ n3_; clear hb hbox hg; have hcz21_0 : w20.cell? ⟨gb405, 0, none⟩ = some (.string (⟨#[]⟩ : ByteArray)) := (blk_cell BK405.out 0).trans rfl; have hcz21_1 : w20.cell? ⟨gb405, 1, none⟩ = some (.int .i64 0) := (blk_cell BK405.out 1).trans rfl; have hfz21_0 := blk_frozen BK405.out 0; have hfz21_1 := blk_frozen BK405.out 1) | ((with_reducible refine gate_callee (f := 52) rfl ?_); refine goesL_ (some 11) rfl rfl Tryd.func52 (by kernel_rfl) rfl #[.agg #[.string t402, .int .i64 t403], .bool false, .bool false] rfl (by (try simp only [List.map_toArray, List.map_cons, List.map_nil]); first | done | rfl | (simp only [List.length_drop, List.length_take]; rfl)) ?_; (with_reducible refine (call_Put.calls t402 t403 false false t406 t407 _ A2.out).mono ?_); rintro e w22 ⟨rfl, hb⟩; refine ⟨_, rfl, ?_⟩; have n0_ := Aside0.mk (blk_below (g := gb405) (o := .cells #[.string t402, .int .i64 t403] 23 (0, 0)) (by (with_reducible repeat (first | refine blk_drewN ?_ _ | refine blk_drew ?_ | refine blk_alloc ?_ _)); refine blk_put (cs := #[.string t402, .int .i64 0]) ?_ 1 _ rfl; (with_reducible repeat (first | refine blk_drewN ?_ _ | refine blk_drew ?_ | refine blk_alloc ?_ _)); refine blk_put (cs := #[.string (⟨#[]⟩ : ByteArray), .int .i64 0]) ?_ 0 _ rfl; (with_reducible repeat (first | refine blk_drewN ?_ _ | refine blk_drew ?_ | refine blk_alloc ?_ _)); exact BK405.out) hb); have n1_ := Aside0.mk (below_step (by repeat (first | (with_reducible first | exact HB.out | apply below_alloc | apply pw_below_drewN | apply below_drew1 | refine below_set ?_ GE405.out) | exact HB.out)) hb); clear BK405; clear HB; have BK405 := n0_; have HB := n1_; clear n0_ n1_; (try clear hb); (try clear hb2); (try clear hk); (try clear hi); have hcz23_0 : w22.cell? ⟨gb405, 0, none⟩ = some (.string t402) := (blk_cell BK405.out 0).trans rfl; have hcz23_1 : w22.cell? ⟨gb405, 1, none⟩ = some (.int .i64 t403) := (blk_cell BK405.out 1).trans rfl; have hfz23_0 := blk_frozen BK405.out 0; have hfz23_1 := blk_frozen BK405.out 1))
    go_ret
    exact ⟨by first | rfl | (simp [errW_none, errW_some] <;> rfl) | (simp [*, errW_none, errW_some] <;> rfl), by repeat (first | (with_reducible first | exact HB.out | apply below_alloc | apply pw_below_drewN | apply below_drew1 | refine below_set ?_ GE405.out) | exact HB.out)⟩
  ·rw [if_neg c4] at H
   have c4b0 : (t402.toList == ([78, 48, 67, 65, 76, 76] : List UInt8) && (t403 == 7)) = false := by simpa using c4
   (try (have c4b1 : decide (t402.toList = ([78, 48, 67, 65, 76, 76] : List UInt8) && (t403 == 7)) = false := by simpa using c4))
   (try (have c4b2 : (t402.toList == ([78, 48, 67, 65, 76, 76] : List UInt8) && (t403 == 7)) = false := by simpa using c4))
   (try (have c4b3 : ¬ (t402.toList = ([78, 48, 67, 65, 76, 76] : List UInt8) && (t403 == 7)) := by simpa using c4))
   clear c4
   obtain rfl := Option.some.inj H
   go_enter Tryd.func36, Tryd.ntmps36
   go_wp2_with (first | ((with_reducible refine gate_callee (f := 42) rfl ?_); refine goesL_ (some 6) rfl rfl Tryd.func42 (by kernel_rfl) rfl #[.string (⟨#[110, 48, 99, 97, 108, 108, 45, 55]⟩ : ByteArray)] rfl (by (try simp only [List.map_toArray, List.map_cons, List.map_nil]); first | done | rfl | (simp only [List.length_drop, List.length_take]; rfl)) ?_; (with_reducible refine (call_Parse.calls (⟨#[110, 48, 99, 97, 108, 108, 45, 55]⟩ : ByteArray) t402 t403 t404 _ ?side1 A1.out).mono ?_); (case side1 => exact EnvW.below HE.out (by repeat (first | (with_reducible first | exact HB.out | apply below_alloc | apply pw_below_drewN | apply below_drew1) | exact HB.out))); rintro e w24 ⟨rfl, hb⟩; refine ⟨_, rfl, ?_⟩; have n0_ := Aside0.mk (below_step (by repeat (first | (with_reducible first | exact HB.out | apply below_alloc | apply pw_below_drewN | apply below_drew1) | exact HB.out)) hb); clear HB; have HB := n0_; clear n0_; (try clear hb); (try clear hb2); (try clear hk); (try clear hi)) | ((with_reducible refine gate_dst (N := 1) rfl ?_); (try (refine gate_guard (by rfl) ?_; dsimp only)); refine box_event ?hg (N := 1) ?hd (cs := #[.string (⟨#[]⟩ : ByteArray), .int .i64 0]) (t := 23) ?hr ?_; (case hd => rfl); (case hg => rfl); (case hr => first | (go_simp; done) | (go_simp; rfl)); intro gb405 hg w25 hbox hb; have n0_ := Aside0.mk (below_step (by repeat (first | (with_reducible first | exact HB.out | apply below_alloc | apply pw_below_drewN | apply below_drew1) | exact HB.out)) hb); have n1_ := Aside0.mk (hbox); have n2_ := Aside0.mk ((by rw [hg]; exact (below_size (by repeat (first | (with_reducible first | exact HB.out | apply below_alloc | apply pw_below_drewN | apply below_drew1) | exact HB.out))) : w.heap.size ≤ gb405)); have n3_ := Aside0.mk ((by rw [hg]; exact (below_size (by repeat (first | (with_reducible first | exact HB.out | apply below_alloc | apply pw_below_drewN | apply below_drew1) | exact HB.out))) : w.heap.size ≤ gb405)); clear HB; have HB := n0_; have BK405 := n1_; have GW405 := n2_; have GE405 := n3_; clear n0_ n1_ n2_ n3_; clear hb hbox hg; have hcz26_0 : w25.cell? ⟨gb405, 0, none⟩ = some (.string (⟨#[]⟩ : ByteArray)) := (blk_cell BK405.out 0).trans rfl; have hcz26_1 : w25.cell? ⟨gb405, 1, none⟩ = some (.int .i64 0) := (blk_cell BK405.out 1).trans rfl; have hfz26_0 := blk_frozen BK405.out 0; have hfz26_1 := blk_frozen BK405.out 1) | ((with_reducible refine gate_callee (f := 52) rfl ?_); refine goesL_ (some 11) rfl rfl Tryd.func52 (by kernel_rfl) rfl #[.agg #[.string t402, .int .i64 t403], .bool false, .bool false] rfl (by (try simp only [List.map_toArray, List.map_cons, List.map_nil]); first | done | rfl | (simp only [List.length_drop, List.length_take]; rfl)) ?_; (with_reducible refine (call_Put.calls t402 t403 false false t406 t407 _ A2.out).mono ?_); rintro e w27 ⟨rfl, hb⟩; refine ⟨_, rfl, ?_⟩; have n0_ := Aside0.mk (blk_below (g := gb405) (o := .cells #[.string t402, .int .i64 t403] 23 (0, 0)) (by (with_reducible repeat (first | refine blk_drewN ?_ _ | refine blk_drew ?_ | refine blk_alloc ?_ _)); refine blk_put (cs := #[.string t402, .int .i64 0]) ?_ 1 _ rfl; (with_reducible repeat (first | refine blk_drewN ?_ _ | refine blk_drew ?_ | refine blk_alloc ?_ _)); refine blk_put (cs := #[.string (⟨#[]⟩ : ByteArray), .int .i64 0]) ?_ 0 _ rfl; (with_reducible repeat (first | refine blk_drewN ?_ _ | refine blk_drew ?_ | refine blk_alloc ?_ _)); exact BK405.out) hb); have n1_ := Aside0.mk (below_step (by repeat (first | (with_reducible first | exact HB.out | apply below_alloc | apply pw_below_drewN | apply below_drew1 | refine below_set ?_ GE405.out) | exact HB.out)) hb); clear BK405; clear HB; have BK405 := n0_; have HB := n1_; clear n0_ n1_; (try clear hb); (try clear hb2); (try clear hk); (try clear hi); have hcz28_0 : w27.cell? ⟨gb405, 0, none⟩ = some (.string t402) := (blk_cell BK405.out 0).trans rfl; have hcz28_1 : w27.cell? ⟨gb405, 1, none⟩ = some (.int .i64 t403) := (blk_cell BK405.out 1).trans rfl; have hfz28_0 := blk_frozen BK405.out 0; have hfz28_1 := blk_frozen BK405.out 1))
   go_ret
   exact ⟨by first | rfl | (simp [errW_none, errW_some] <;> rfl) | (simp [*, errW_none, errW_some] <;> rfl), by repeat (first | (with_reducible first | exact HB.out | apply below_alloc | apply pw_below_drewN | apply below_drew1 | refine below_set ?_ GE405.out) | exact HB.out)⟩
 ·rw [if_neg c3] at H
  have c3b0 : (t404 == 0) = false := beq_eq_false_iff_ne.mpr c3
  have c3b1 : (t404 != 0) = true := bne_iff_ne.mpr c3
  obtain rfl := Option.some.inj H
  go_enter Tryd.func36, Tryd.ntmps36
  go_wp2_with (first | ((with_reducible refine gate_callee (f := 42) rfl ?_); refine goesL_ (some 6) rfl rfl Tryd.func42 (by kernel_rfl) rfl #[.string (⟨#[110, 48, 99, 97, 108, 108, 45, 55]⟩ : ByteArray)] rfl (by (try simp only [List.map_toArray, List.map_cons, List.map_nil]); first | done | rfl | (simp only [List.length_drop, List.length_take]; rfl)) ?_; (with_reducible refine (call_Parse.calls (⟨#[110, 48, 99, 97, 108, 108, 45, 55]⟩ : ByteArray) t402 t403 t404 _ ?side1 A1.out).mono ?_); (case side1 => exact EnvW.below HE.out (by repeat (first | (with_reducible first | exact HB.out | apply below_alloc | apply pw_below_drewN | apply below_drew1) | exact HB.out))); rintro e w29 ⟨rfl, hb⟩; refine ⟨_, rfl, ?_⟩; have n0_ := Aside0.mk (below_step (by repeat (first | (with_reducible first | exact HB.out | apply below_alloc | apply pw_below_drewN | apply below_drew1) | exact HB.out)) hb); clear HB; have HB := n0_; clear n0_; (try clear hb); (try clear hb2); (try clear hk); (try clear hi)) | ((with_reducible refine gate_dst (N := 1) rfl ?_); (try (refine gate_guard (by rfl) ?_; dsimp only)); refine box_event ?hg (N := 1) ?hd (cs := #[.string (⟨#[]⟩ : ByteArray), .int .i64 0]) (t := 23) ?hr ?_; (case hd => rfl); (case hg => rfl); (case hr => first | (go_simp; done) | (go_simp; rfl)); intro gb405 hg w30 hbox hb; have n0_ := Aside0.mk (below_step (by repeat (first | (with_reducible first | exact HB.out | apply below_alloc | apply pw_below_drewN | apply below_drew1) | exact HB.out)) hb); have n1_ := Aside0.mk (hbox); have n2_ := Aside0.mk ((by rw [hg]; exact (below_size (by repeat (first | (with_reducible first | exact HB.out | apply below_alloc | apply pw_below_drewN | apply below_drew1) | exact HB.out))) : w.heap.size ≤ gb405)); have n3_ := Aside0.mk ((by rw [hg]; exact (below_size (by repeat (first | (with_reducible first | exact HB.out | apply below_alloc | apply pw_below_drewN | apply below_drew1) | exact HB.out))) : w.heap.size ≤ gb405)); clear HB; have HB := n0_; have BK405 := n1_; have GW405 := n2_; have GE405 := n3_; clear n0_ n1_ n2_ n3_; clear hb hbox hg; have hcz31_0 : w30.cell? ⟨gb405, 0, none⟩ = some (.string (⟨#[]⟩ : ByteArray)) := (blk_cell BK405.out 0).trans rfl; have hcz31_1 : w30.cell? ⟨gb405, 1, none⟩ = some (.int .i64 0) := (blk_cell BK405.out 1).trans rfl; have hfz31_0 := blk_frozen BK405.out 0; have hfz31_1 := blk_frozen BK405.out 1) | ((with_reducible refine gate_callee (f := 52) rfl ?_); refine goesL_ (some 11) rfl rfl Tryd.func52 (by kernel_rfl) rfl #[.agg #[.string t402, .int .i64 t403], .bool false, .bool false] rfl (by (try simp only [List.map_toArray, List.map_cons, List.map_nil]); first | done | rfl | (simp only [List.length_drop, List.length_take]; rfl)) ?_; (with_reducible refine (call_Put.calls t402 t403 false false t406 t407 _ A2.out).mono ?_); rintro e w32 ⟨rfl, hb⟩; refine ⟨_, rfl, ?_⟩; have n0_ := Aside0.mk (blk_below (g := gb405) (o := .cells #[.string t402, .int .i64 t403] 23 (0, 0)) (by (with_reducible repeat (first | refine blk_drewN ?_ _ | refine blk_drew ?_ | refine blk_alloc ?_ _)); refine blk_put (cs := #[.string t402, .int .i64 0]) ?_ 1 _ rfl; (with_reducible repeat (first | refine blk_drewN ?_ _ | refine blk_drew ?_ | refine blk_alloc ?_ _)); refine blk_put (cs := #[.string (⟨#[]⟩ : ByteArray), .int .i64 0]) ?_ 0 _ rfl; (with_reducible repeat (first | refine blk_drewN ?_ _ | refine blk_drew ?_ | refine blk_alloc ?_ _)); exact BK405.out) hb); have n1_ := Aside0.mk (below_step (by repeat (first | (with_reducible first | exact HB.out | apply below_alloc | apply pw_below_drewN | apply below_drew1 | refine below_set ?_ GE405.out) | exact HB.out)) hb); clear BK405; clear HB; have BK405 := n0_; have HB := n1_; clear n0_ n1_; (try clear hb); (try clear hb2); (try clear hk); (try clear hi)))
  go_ret
  exact ⟨by first | rfl | (simp [errW_none, errW_some] <;> rfl) | (simp [*, errW_none, errW_some] <;> rfl), by repeat (first | (with_reducible first | exact HB.out | apply below_alloc | apply pw_below_drewN | apply below_drew1 | refine below_set ?_ GE405.out) | exact HB.out)⟩

end Go.Proofs.YtpmieapgbdbabaaDoor.QAll
end

section
/- call.Distinct, walked by hand: are calls right, and no two alike? -/
set_option linter.unusedVariables false
set_option linter.unusedSimpArgs false
namespace Go.Proofs.YtpmieapgbdbabaaDoor.QAll
open Go.RowKit Go.Proofs.YtpmieapgbdbabaaDoorW.PrintWords Go.Proofs.YtpmieapgbdbabaaDoorW.PrintLast Go.Proofs.YtpmieapgbdbabaaDoorW.PrintMore

theorem typesN : ∃ m, Tryd.prog.types.size + 1 = m + 2 := by
  have h : 2 ≤ Tryd.prog.types.size := of_decide_eq_true (by kernel_rfl)
  exact ⟨Tryd.prog.types.size - 1, by omega⟩
theorem laid23 : laidOutB Tryd.prog = true := by kernel_rfl
theorem keyed23 : Maps.Keyed Tryd.prog 23 := Maps.Keyed.of_law (deep_law_laid laid23 (m := 10) (by decide) (of_decide_eq_true (by kernel_rfl)) (by kernel_rfl) (by kernel_rfl))
def ckey (d : S23) : Lit := .string (keyBytes [.string d.f0.data.toList, .int .i64 d.f1])
theorem cellsA : Tryd.prog.cellsOf 23 = 2 := by kernel_rfl
theorem cellsB : Tryd.prog.cellsOf 9 = 1 := by kernel_rfl
theorem cellsC : Tryd.prog.cellsOf 3 = 1 := by kernel_rfl
theorem keyType23 : Tryd.prog.keyType 23 = true := by kernel_rfl
theorem ckey_of (d : S23) (hs : d.f0.size ≤ maxLen) (hw : (Lit.int .i64 d.f1).wf = true) : keyOf Tryd.prog 23 (.agg #[.string d.f0, .int .i64 d.f1]) = some (ckey d) := by
  obtain ⟨m, hm⟩ := typesN
  have h23 := Tryd.underlying23
  have h9 := Tryd.underlying9
  have h3 := Tryd.underlying3
  unfold keyOf
  rw [h23]
  simp only [keyType23, Value.formed, h23, cellsA, hm]
  simp [Program.keyLits, h23, h9, h3, cellsA, cellsB, cellsC, hs, hw, Value.cells, ckey]
theorem plainElem_bool_inv {H : Type} {P : Program} {e : TypeId} (he : P.underlying e = some .bool) {v : Value} {x : Bool} {ps : List MemPlace} (h : plainElem (H := H) P e v = some (.lit (.bool x), ps)) : v = .bool x := by
  unfold plainElem at h
  rw [he] at h
  cases v <;> simp at h
  rw [h.1]
theorem two_cellD {w : World} {g : Nat} {a b : Value} {t : TypeId} (h : w.heap[g]? = some (.cells #[a, b] t (0, 0))) :
    w.cell? ⟨g, 0, none⟩ = some a ∧ w.cell? ⟨g, 1, none⟩ = some b ∧ w.frozen? ⟨g, 0, none⟩ = false ∧ w.frozen? ⟨g, 1, none⟩ = false := by
  simp [World.cell?, World.frozen?, h]
/-- Are two calls alike? -/
def eqC (c d : S23) : Bool := decide (c.f0 = d.f0) && decide (c.f1 = d.f1)
def distL : List S23 → List S23 → Bool
  | _, [] => true
  | seen, c :: r => rightB c.f0 c.f1 && (!(seen.any (fun d => eqC d c)) && distL (seen ++ [c]) r)
def call_Distinct.f (l0 : List S23) : Option Bool := if (decide (l0.length ≤ 1000000) && l0.all (fun d => decide (d.f0.size ≤ 9223372036854775807) && (Lit.int .i64 d.f1).wf)) = true then some (distL [] l0) else none
theorem drop_T23 (l : List S23) (k : Nat) (h : k < l.length) : l.drop k = rd_T23 l k :: l.drop (k + 1) := by
  rw [List.drop_eq_getElem_cons h]
  unfold rd_T23
  rw [Int.toNat_natCast, List.getD_eq_getElem?_getD, List.getElem?_eq_getElem h]
  rfl
theorem take_T23 (l : List S23) (k : Nat) (h : k < l.length) : l.take (k + 1) = l.take k ++ [rd_T23 l k] := by
  rw [List.take_add_one]
  congr 1
  unfold rd_T23
  rw [Int.toNat_natCast, List.getD_eq_getElem?_getD, List.getElem?_eq_getElem h]
  rfl
theorem owns_below {H : Type} {P : Program} {k : TypeId} {R : Value → Option (DataW H × List MemPlace)} {b n : Nat} {D : DataW H} {w w' : World} (h : w.ownsMap P k R b n D) (hb : Below w.heap.size w w') : w'.ownsMap P k R b n D :=
  h.kept (row := none) ⟨hb.os, hb.tape, hb.output, hb.size, fun k hk _ => hb.block k hk⟩ (by simp)
def OkC (d : S23) : Prop := d.f0.size ≤ maxLen ∧ (Lit.int .i64 d.f1).wf = true
/-- What the map tells of calls. -/
def Tells (D : DataW Unit) (seen : List S23) : Prop := ∀ d : S23, OkC d → D.atKey (ckey d) (.lit (.bool false)) = .lit (.bool (seen.any (fun e => eqC e d)))
theorem tells_put {D : DataW Unit} {seen : List S23} (hD : Maps.IsMap D) (h : Tells D seen) (c : S23) (hc : OkC c) : Tells (D.put (ckey c) (.lit (.bool true))) (seen ++ [c]) := by
  intro d hd
  rw [List.any_append]
  by_cases he : d = c
  · subst he
    rw [Maps.atKey_put_same hD (keyed23.key (ckey_of d hd.1 hd.2))]
    simp [eqC]
  · have hne : ckey d ≠ ckey c := by
      intro e
      have h1 := ckey_of d hd.1 hd.2
      have h2 := ckey_of c hc.1 hc.2
      rw [e] at h1
      have := keyed23.inj h1 h2
      simp only [Value.agg.injEq, Array.mk.injEq, List.cons.injEq, Value.string.injEq, Value.int.injEq, and_true, true_and] at this
      obtain ⟨x, y⟩ := d
      obtain ⟨u, v⟩ := c
      exact he (by rw [show x = u from this.1, show y = v from this.2])
    rw [Maps.atKey_put_other hne, h d hd]
    have : eqC c d = false := by
      unfold eqC
      obtain ⟨x, y⟩ := d
      obtain ⟨u, v⟩ := c
      rcases Bool.eq_false_or_eq_true (decide (u = x) && decide (v = y)) with h' | h'
      · rw [Bool.and_eq_true, decide_eq_true_eq, decide_eq_true_eq] at h'
        exact absurd (by rw [h'.1, h'.2]) he
      · exact h'
    simp [this]
set_option maxHeartbeats 1000000 in
set_option maxRecDepth 100000 in
theorem call_Distinct.calls (A0 : Option Addr) (c0 : Nat) (l0 : List (S23)) (r : Bool) (w : World) (hr0 : Kd.C k23 w A0 l0.length l0) (hc0 : l0.length ≤ c0) (h : call_Distinct.f l0 = some r) :
    Calls Tryd.prog 45 #[.slice A0 l0.length c0] w fun e w' => e = .returned (.bool r) ∧ Below w.heap.size w w' := by
  unfold call_Distinct.f at h
  split at h
  case isFalse => cases h
  rename_i hs
  have HR_ := Aside0.mk (Option.some.inj h)
  rw [Bool.and_eq_true, decide_eq_true_eq, List.all_eq_true] at hs
  obtain ⟨hl, hall⟩ := hs
  have HC := Aside0.mk hr0
  have HOK := Aside0.mk (show ∀ k : Nat, k < l0.length → OkC (rd_T23 l0 k) from fun k hk => by
    have := hall (rd_T23 l0 k) (by unfold rd_T23; rw [Int.toNat_natCast, List.getD_eq_getElem?_getD, List.getElem?_eq_getElem hk]; exact List.getElem_mem hk)
    rw [Bool.and_eq_true, decide_eq_true_eq] at this
    exact this)
  clear hr0 h hall
  have hu23 := Tryd.underlying23
  have hu118 := Tryd.underlying118
  have hmm := @run_makeMap Tryd.prog
  go_enter Tryd.func45, Tryd.ntmps45
  go_wp2_with (fail)
  have HOwn := Aside0.mk (World.ownsMap_made (H := Unit) w Tryd.prog 23 (plainElem Tryd.prog 4))
  have HB0 := Aside0.mk ((Below.refl w.heap.size w).alloc (Nat.le_refl _) (.map #[] 0))
  generalize w.alloc (.map #[] 0) = w1 at HOwn HB0 ⊢
  go_loopw [5, 9] (fun v5 v9 wr => ∃ (k : Nat) (D : DataW Unit), k ≤ l0.length ∧ v9 = .int .i64 k ∧ Aside0 (distL (l0.take k) (l0.drop k) = distL [] l0) ∧ Aside0 (wr.ownsMap Tryd.prog 23 (plainElem Tryd.prog 4) w.heap.size k D) ∧ Aside0 (Tells D (l0.take k)) ∧ Aside0 (Below w.heap.size w wr)) (fun v5 v9 _ => l0.length - (intOf v9).toNat)
  case atStart =>
    exact ⟨0, .map [], Nat.zero_le _, rfl, ⟨by rw [List.take_zero, List.drop_zero]⟩, HOwn, ⟨fun d _ => rfl⟩, HB0⟩
  case round =>
    clear HOwn HB0
    obtain ⟨k, D, hk, rfl, HT, HOwn, HTell, HB⟩ := hrel
    by_cases hlt : k < l0.length
    · obtain ⟨ad, rfl, x0, x1⟩ := at_T23 (Kd.C_below HC.out (HB.out)) k (by omega) (by omega)
      simp only [Int.toNat_natCast] at x0 x1
      have hok := HOK.out k hlt
      have HT2 := Aside0.mk (show distL [] l0 = (rightB (rd_T23 l0 k).f0 (rd_T23 l0 k).f1 && (!((l0.take k).any (fun d => eqC d (rd_T23 l0 k))) && distL (l0.take (k + 1)) (l0.drop (k + 1)))) by
        rw [← HT.out, drop_T23 l0 k hlt, take_T23 l0 k hlt]; rfl)
      clear HT
      go_wp2_with (fail)
      refine (call_Right.calls (rd_T23 l0 k).f0 (rd_T23 l0 k).f1 (rightB (rd_T23 l0 k).f0 (rd_T23 l0 k).f1) _ (by unfold call_Right.f; rw [if_pos (show (rd_T23 l0 k).f0.size ≤ 9223372036854775807 from hok.1)])).mono ?_
      rintro e w5 ⟨rfl, hb⟩
      have hbA : Below wr.heap.size wr w5 := below_then ((Below.refl _ _).alloc (Nat.le_refl _) _) (by simp) hb
      have HD5 := Aside0.mk ((hb.block wr.heap.size (by simp)).trans (heap_alloc_new wr _))
      have HOwn5 := Aside0.mk (owns_below HOwn.out hbA)
      have HB5 := Aside0.mk (below_then HB.out HB.out.size hbA)
      clear HOwn HB hb hbA x0 x1
      obtain ⟨d0, d1, _, _⟩ := two_cellD HD5.out
      have hw5 : w.heap.size + 1 ≤ w5.heap.size := by have := HOwn5.out.lt; omega
      cases hr : rightB (rd_T23 l0 k).f0 (rd_T23 l0 k).f1 with
      | false =>
        have hq := HT2.out
        rw [hr, Bool.false_and] at hq
        clear HT2
        go_wp2_with (fail)
        go_ret
        exact ⟨by rw [← HR_.out, hq]; rfl, HB5.out⟩
      | true =>
        obtain ⟨v, ps, hrun, hv⟩ := HOwn5.out.lookup keyed23 Tryd.underlying118 (show (zeroValue 4).run Tryd.prog w5 = .ok (.bool false) w5 from Tryd.zeroValue4 w5) (plainElem_bool Tryd.underlying4 false) (ckey_of (rd_T23 l0 k) hok.1 hok.2)
        rw [HTell.out (rd_T23 l0 k) hok] at hv
        obtain rfl := plainElem_bool_inv Tryd.underlying4 hv
        clear hv
        cases hsn : (l0.take k).any (fun e => eqC e (rd_T23 l0 k)) with
        | true =>
          rw [hsn] at hrun
          have hq := HT2.out
          rw [hr, hsn] at hq
          clear HT2
          go_wp2_with (fail)
          go_ret
          exact ⟨by rw [← HR_.out, hq]; rfl, HB5.out⟩
        | false =>
          rw [hsn] at hrun
          have hq := HT2.out
          rw [hr, hsn] at hq
          clear HT2
          have hkey := ckey_of (rd_T23 l0 k) hok.1 hok.2
          have hval := plainElem_bool (H := Unit) Tryd.underlying4 true
          have hkm : k < maxLen := by have : maxLen = 9223372036854775807 := rfl; omega
          have HNew := Aside0.mk (tells_put HOwn5.out.isMap HTell.out (rd_T23 l0 k) hok)
          have hown := HOwn5.out
          have HW := Aside0.mk (show wrap64 ((k : Int) + 1) = ((k + 1 : Nat) : Int) by unfold wrap64; omega)
          go_wp2_with (first | (at_mapUpdate; refine wpList_mapUpdate_own _ rfl _ _ _ 118 rfl 23 4 keyed23 Tryd.underlying118 _ w.heap.size k D rfl hown hkm _ _ (ckey (rd_T23 l0 k)) rfl rfl hkey (.lit (.bool true)) [] hval ?_; intro w6 hown6 hgrow6) | go_in)
          try rw [HW.out]
          exact ⟨⟨k + 1, _, by omega, by first | rfl | (congr 1), ⟨hq.symm⟩, ⟨hown6⟩, ⟨by rw [take_T23 l0 k hlt]; exact HNew.out⟩, ⟨HB5.out.grown hgrow6 HB5.out.size (fun j e => by cases e; exact Nat.le_refl _)⟩⟩, by simp only [intOf]; omega⟩
    · obtain rfl : k = l0.length := by omega
      go_wp2_with (fail)
      go_ret
      have h9 := HT.out
      rw [List.drop_length] at h9
      exact ⟨by rw [← HR_.out, ← h9]; rfl, HB.out⟩
end Go.Proofs.YtpmieapgbdbabaaDoor.QAll
end

section
/- Walks, written by a program of this session (wip/pp): a Go function comes to what the Lean function beside it tells. -/
namespace Go.Proofs.YtpmieapgbdbabaaDoor.QAll
open Go.RowKit Go.Proofs.YtpmieapgbdbabaaDoorW.PrintWords Go.Proofs.YtpmieapgbdbabaaDoorW.PrintLast Go.Proofs.YtpmieapgbdbabaaDoorW.PrintMore
set_option linter.unusedVariables false
set_option linter.unusedSimpArgs false
theorem info23 : (Tryd.prog.info? 23).map (fun i => (i.zero, i.size, i.bytes)) = some (some (.agg #[(.string ⟨#[]⟩), (.int .i64 0)]), 2, 24) := by kernel_rfl

attribute [local go_sem high] eqA23
mutual
def squelchlaw04_CallDistinct.l0 : Nat → List (S23) → Bool → List (S23) → Int → Int → Option (Bool)
 | 0, _, _, _, _, _ => none
 | k + 1, x0, x3, x13, x14, x15 => if x15 < x14 then (if 0 ≤ x15 then (if x15 < (x13.length : Int) then (if (((rd_T23 x13 x15).f0).size : Int) > 100 then (some true) else (if x3 = true then ((squelchref04_Right.f k ((rd_T23 x13 x15).f0) ((rd_T23 x13 x15).f1)).bind fun t462 => (squelchlaw04_CallDistinct.j1 k x0 t462 x15 x13 x14 x15 ((rd_T23 x13 x15).f0) ((rd_T23 x13 x15).f1))) else (squelchlaw04_CallDistinct.j1 k x0 false x15 x13 x14 x15 ((rd_T23 x13 x15).f0) ((rd_T23 x13 x15).f1)))) else (none)) else (none)) else ((call_Distinct.f x0).bind fun t459 => (some (t459 == x3)))
def squelchlaw04_CallDistinct.j1 : Nat → List (S23) → Bool → Int → List (S23) → Int → Int → ByteArray → Int → Option (Bool)
 | 0, _, _, _, _, _, _, _, _ => none
 | k + 1, x0, x3, x4, x13, x14, x15, x462000, x462001 => if 0 ≤ x4 then (if x4 ≤ (x0.length : Int) then ((some (x0.take (x4 : Int).toNat : List (S23))).bind fun y463 => (squelchlaw04_CallDistinct.l1 k x0 x3 x13 x14 x15 y463 (y463.length : Int) 0 x462000 x462001)) else (none)) else (none)
def squelchlaw04_CallDistinct.l1 : Nat → List (S23) → Bool → List (S23) → Int → Int → List (S23) → Int → Int → ByteArray → Int → Option (Bool)
 | 0, _, _, _, _, _, _, _, _, _, _ => none
 | k + 1, x0, x3, x13, x14, x15, x31, x32, x33, x462000, x462001 => if x33 < x32 then (if 0 ≤ x33 then (if x33 < (x31.length : Int) then (if x3 = true then (squelchlaw04_CallDistinct.l1 k x0 (!(x462000.toList == (((rd_T23 x31 x33).f0).toList)) || (!(x462001 == ((rd_T23 x31 x33).f1)))) x13 x14 x15 x31 x32 (wrap64 (x33 + 1)) x462000 x462001) else (squelchlaw04_CallDistinct.l1 k x0 false x13 x14 x15 x31 x32 (wrap64 (x33 + 1)) x462000 x462001)) else (none)) else (none)) else (squelchlaw04_CallDistinct.l0 k x0 x3 x13 x14 (wrap64 (x15 + 1)))
end
def squelchlaw04_CallDistinct.f (k : Nat) (l0 : List (S23)) : Option (Bool) := (squelchlaw04_awake.f).bind fun t458 => (if t458 = true then (if (l0.length : Int) > 60 then (some true) else (squelchlaw04_CallDistinct.l0 k l0 true l0 (l0.length : Int) 0)) else (some false))
set_option maxHeartbeats 8000000 in
set_option maxRecDepth 100000 in
theorem squelchlaw04_CallDistinct.calls (k : Nat) (A0 : Option Addr) (c0 : Nat) (l0 : List (S23)) (r : Bool) (w : World) (hE_ : EnvW w) (hT_ : r = true) (hr0 : Kd.C k23 w A0 l0.length l0) (hc0 : l0.length ≤ c0) (h : squelchlaw04_CallDistinct.f k l0 = some r) :
  Calls Tryd.prog 9 #[.slice A0 l0.length c0] w fun e w' => e = .returned (.bool r) ∧ Below w.heap.size w w' := by
 have hu23 := Tryd.underlying23
 have HR0 := Aside0.mk hr0
 have HC0 := Aside0.mk hc0
 clear hr0 hc0
 have HB := Aside0.mk (Below.refl w.heap.size w)
 have HE := Aside0.mk hE_
 clear hE_
 have HT_ := Aside0.mk hT_
 clear hT_
 have H : ((squelchlaw04_awake.f).bind fun t458 => (if t458 = true then (if (l0.length : Int) > 60 then (some true) else (squelchlaw04_CallDistinct.l0 k l0 true l0 (l0.length : Int) 0)) else (some false))) = some r := h
 clear h
 replace H := Option.bind_eq_some_iff.mp H
 obtain ⟨t458, A20, H⟩ := H
 replace H : (if t458 = true then (if (l0.length : Int) > 60 then (some true) else (squelchlaw04_CallDistinct.l0 k l0 true l0 (l0.length : Int) 0)) else (some false)) = some r := H
 have A2 := Aside0.mk A20
 clear A20
 by_cases c3 : t458 = true
 ·subst c3
  have H1 : (if (l0.length : Int) > 60 then (some true) else (squelchlaw04_CallDistinct.l0 k l0 true l0 (l0.length : Int) 0)) = some r := by rw [if_pos rfl] at H; exact H
  clear H
  have H := H1
  clear H1
  by_cases c4 : (l0.length : Int) > 60
  ·rw [if_pos c4] at H
   have c4b0 : decide (60 < (l0.length : Int)) = true := decide_eq_true c4
   have c4b1 : decide (60 < l0.length) = true := decide_eq_true (by omega)
   clear c4
   obtain rfl := Option.some.inj H
   go_enter Tryd.func9, Tryd.ntmps9
   go_wp2_with (first | ((with_reducible refine gate_callee (f := 36) rfl ?_); refine goesL_ (some 8) rfl rfl Tryd.func36 (by kernel_rfl) rfl #[] rfl (by (try simp only [List.map_toArray, List.map_cons, List.map_nil]); first | done | rfl | (simp only [List.length_drop, List.length_take]; rfl)) ?_; (with_reducible refine (squelchlaw04_awake.calls  true _ ?side1 A2.out).mono ?_); (case side1 => exact EnvW.below HE.out (by repeat (first | (with_reducible first | exact HB.out | apply below_alloc | apply pw_below_drewN | apply below_drew1) | exact HB.out))); rintro e w5 ⟨rfl, hb⟩; refine ⟨_, rfl, ?_⟩; have n0_ := Aside0.mk (below_step (by repeat (first | (with_reducible first | exact HB.out | apply below_alloc | apply pw_below_drewN | apply below_drew1) | exact HB.out)) hb); clear HB; have HB := n0_; clear n0_; (try clear hb); (try clear hb2); (try clear hk); (try clear hi)))
   go_ret
   exact ⟨by first | rfl | (simp [errW_none, errW_some] <;> rfl) | (simp [*, errW_none, errW_some] <;> rfl), by repeat (first | (with_reducible first | exact HB.out | apply below_alloc | apply pw_below_drewN | apply below_drew1) | exact HB.out)⟩
  ·rw [if_neg c4] at H
   have c4b0 : decide (60 < (l0.length : Int)) = false := decide_eq_false c4
   have c4b1 : decide (60 < l0.length) = false := decide_eq_false (by omega)
   clear c4
   have H' := Aside0.mk H
   clear H
   go_enter Tryd.func9, Tryd.ntmps9
   go_wp2_with (first | ((with_reducible refine gate_callee (f := 36) rfl ?_); refine goesL_ (some 8) rfl rfl Tryd.func36 (by kernel_rfl) rfl #[] rfl (by (try simp only [List.map_toArray, List.map_cons, List.map_nil]); first | done | rfl | (simp only [List.length_drop, List.length_take]; rfl)) ?_; (with_reducible refine (squelchlaw04_awake.calls  true _ ?side1 A2.out).mono ?_); (case side1 => exact EnvW.below HE.out (by repeat (first | (with_reducible first | exact HB.out | apply below_alloc | apply pw_below_drewN | apply below_drew1) | exact HB.out))); rintro e w6 ⟨rfl, hb⟩; refine ⟨_, rfl, ?_⟩; have n0_ := Aside0.mk (below_step (by repeat (first | (with_reducible first | exact HB.out | apply below_alloc | apply pw_below_drewN | apply below_drew1) | exact HB.out)) hb); clear HB; have HB := n0_; clear n0_; (try clear hb); (try clear hb2); (try clear hk); (try clear hi)))
   go_loopg [3, 15] k (fun kq v3 v15 w' => ∃ (x3_1 : Bool) (x15_1 : Int), v3 = .bool x3_1 ∧ v15 = .int .i64 x15_1 ∧ Aside0 (squelchlaw04_CallDistinct.l0 kq l0 x3_1 l0 (l0.length : Int) x15_1 = some r) ∧ Aside0 (kq ≤ k) ∧ Aside0 (Below w.heap.size w w'))
   case atStart => exact ⟨(true), (0), (by first | rfl | (simp; done) | (simp [*]; done) | (simp; exact (fun l : List UInt8 => (by cases l <;> rfl : l.isEmpty = !(l != []))) _)), (by first | rfl | (simp; done) | (simp [*]; done) | (simp; exact (fun l : List UInt8 => (by cases l <;> rfl : l.isEmpty = !(l != []))) _)), H', ⟨Nat.le_refl _⟩, ⟨by repeat (first | (with_reducible first | exact HB.out | apply below_alloc | apply pw_below_drewN | apply below_drew1) | exact HB.out)⟩⟩
   case round =>
    clear H'
    try clear p2
    try clear c3
    try clear c4
    try clear c4b0
    try clear c4b1
    obtain ⟨x3_1, x15_1, rfl, rfl, HA, HK1, HB⟩ := hrel
    cases gk with
    | zero => exact absurd HA.out (by simp [squelchlaw04_CallDistinct.l0])
    | succ k1 =>
     have H := HA.out
     clear HA
     simp only [squelchlaw04_CallDistinct.l0] at H
     by_cases c7 : x15_1 < (l0.length : Int)
     ·rw [if_pos c7] at H
      have c7b0 : decide (x15_1 < (l0.length : Int)) = true := decide_eq_true c7
      clear c7
      by_cases c8 : 0 ≤ x15_1
      ·rw [if_pos c8] at H
       have c8b0 : decide (0 ≤ x15_1) = true := decide_eq_true c8
       clear c8
       by_cases c9 : x15_1 < (l0.length : Int)
       ·rw [if_pos c9] at H
        have c9b0 : decide (x15_1 < (l0.length : Int)) = true := decide_eq_true c9
        clear c9
        by_cases c10 : (((rd_T23 l0 x15_1).f0).size : Int) > 100
        ·rw [if_pos c10] at H
         have c10b0 : decide (100 < (((rd_T23 l0 x15_1).f0).size : Int)) = true := decide_eq_true c10
         have c10b1 : decide (100 < ((rd_T23 l0 x15_1).f0).size) = true := decide_eq_true (by omega)
         clear c10
         obtain rfl := Option.some.inj H
         have p460 : 0 ≤ (x15_1 : Int) := of_decide_eq_true (by first | (with_reducible assumption) | assumption)
         have q460 : x15_1 < (l0.length : Int) := of_decide_eq_true (by first | (with_reducible assumption) | assumption)
         obtain ⟨ad460, e460, hx460_0, hx460_1⟩ := at_T23 HR0.out x15_1 p460 q460
         cases e460
         replace hx460_0 := (HB.out.cell (World.block_lt_of_cell? w _ hx460_0)).trans hx460_0
         replace hx460_1 := (HB.out.cell (World.block_lt_of_cell? w _ hx460_1)).trans hx460_1
         replace p460 := eq_true p460
         replace q460 := eq_true q460
         go_wp2_with (first | ((with_reducible refine gate_dst (N := 5) rfl ?_); refine box_event ?hg (N := 5) ?hd (cs := #[.string (⟨#[]⟩ : ByteArray), .int .i64 0]) (t := 23) ?hr ?_; (case hd => rfl); (case hg => rfl); (case hr => first | (go_simp; done) | (go_simp; rfl)); intro gb461 hg w11 hbox hb; have n0_ := Aside0.mk (below_step (by repeat (first | (with_reducible first | exact HB.out | apply below_alloc | apply pw_below_drewN | apply below_drew1) | exact HB.out)) hb); have n1_ := Aside0.mk (hbox); have n2_ := Aside0.mk ((by rw [hg]; exact (below_size (by repeat (first | (with_reducible first | exact HB.out | apply below_alloc | apply pw_below_drewN | apply below_drew1) | exact HB.out))) : w.heap.size ≤ gb461)); have n3_ := Aside0.mk ((by rw [hg]; exact (below_size (by repeat (first | (with_reducible first | exact HB.out | apply below_alloc | apply pw_below_drewN | apply below_drew1) | exact HB.out))) : w.heap.size ≤ gb461)); clear HB; have HB := n0_; have BK461 := n1_; have GW461 := n2_; have GE461 := n3_; clear n0_ n1_ n2_ n3_; clear hb hbox hg; have hcz12_0 : w11.cell? ⟨gb461, 0, none⟩ = some (.string (⟨#[]⟩ : ByteArray)) := (blk_cell BK461.out 0).trans rfl; have hcz12_1 : w11.cell? ⟨gb461, 1, none⟩ = some (.int .i64 0) := (blk_cell BK461.out 1).trans rfl; have hfz12_0 := blk_frozen BK461.out 0; have hfz12_1 := blk_frozen BK461.out 1))
         go_ret
         exact ⟨by first | rfl | (simp [errW_none, errW_some] <;> rfl) | (simp [*, errW_none, errW_some] <;> rfl), by repeat (first | (with_reducible first | exact HB.out | apply below_alloc | apply pw_below_drewN | apply below_drew1 | refine below_set ?_ GE461.out) | exact HB.out)⟩
        ·rw [if_neg c10] at H
         have c10b0 : decide (100 < (((rd_T23 l0 x15_1).f0).size : Int)) = false := decide_eq_false c10
         have c10b1 : decide (100 < ((rd_T23 l0 x15_1).f0).size) = false := decide_eq_false (by omega)
         clear c10
         have HC13 := Aside0.mk H
         clear H
         have p460 : 0 ≤ (x15_1 : Int) := of_decide_eq_true (by first | (with_reducible assumption) | assumption)
         have q460 : x15_1 < (l0.length : Int) := of_decide_eq_true (by first | (with_reducible assumption) | assumption)
         obtain ⟨ad460, e460, hx460_0, hx460_1⟩ := at_T23 HR0.out x15_1 p460 q460
         cases e460
         replace hx460_0 := (HB.out.cell (World.block_lt_of_cell? w _ hx460_0)).trans hx460_0
         replace hx460_1 := (HB.out.cell (World.block_lt_of_cell? w _ hx460_1)).trans hx460_1
         replace p460 := eq_true p460
         replace q460 := eq_true q460
         go_upto_region 11 with (first | ((with_reducible refine gate_dst (N := 5) rfl ?_); refine box_event ?hg (N := 5) ?hd (cs := #[.string (⟨#[]⟩ : ByteArray), .int .i64 0]) (t := 23) ?hr ?_; (case hd => rfl); (case hg => rfl); (case hr => first | (go_simp; done) | (go_simp; rfl)); intro gb461 hg w14 hbox hb; have n0_ := Aside0.mk (below_step (by repeat (first | (with_reducible first | exact HB.out | apply below_alloc | apply pw_below_drewN | apply below_drew1) | exact HB.out)) hb); have n1_ := Aside0.mk (hbox); have n2_ := Aside0.mk ((by rw [hg]; exact (below_size (by repeat (first | (with_reducible first | exact HB.out | apply below_alloc | apply pw_below_drewN | apply below_drew1) | exact HB.out))) : w.heap.size ≤ gb461)); have n3_ := Aside0.mk ((by rw [hg]; exact (below_size (by repeat (first | (with_reducible first | exact HB.out | apply below_alloc | apply pw_below_drewN | apply below_drew1) | exact HB.out))) : w.heap.size ≤ gb461)); clear HB; have HB := n0_; have BK461 := n1_; have GW461 := n2_; have GE461 := n3_; clear n0_ n1_ n2_ n3_; clear hb hbox hg; have hcz15_0 : w14.cell? ⟨gb461, 0, none⟩ = some (.string (⟨#[]⟩ : ByteArray)) := (blk_cell BK461.out 0).trans rfl; have hcz15_1 : w14.cell? ⟨gb461, 1, none⟩ = some (.int .i64 0) := (blk_cell BK461.out 1).trans rfl; have hfz15_0 := blk_frozen BK461.out 0; have hfz15_1 := blk_frozen BK461.out 1))
         (try simp only [Act.put, List.setIfInBounds_toArray, List.set_cons_zero, List.set_cons_succ])
         go_cut [3] (fun v3 wc => ∃ (kq : Nat) (x3_12 : Bool), v3 = .bool x3_12 ∧ Aside0 (squelchlaw04_CallDistinct.j1 kq l0 x3_12 x15_1 l0 (l0.length : Int) x15_1 ((rd_T23 l0 x15_1).f0) ((rd_T23 l0 x15_1).f1) = some r) ∧ Aside0 (kq ≤ k1) ∧ Aside0 (wc.heap[gb461]? = some (.cells #[.string ((rd_T23 l0 x15_1).f0), .int .i64 ((rd_T23 l0 x15_1).f1)] 23 (0, 0))) ∧ Aside0 (Below w.heap.size w wc))
         case first =>
          have H := HC13.out
          clear HC13
          by_cases c16 : x3_1 = true
          ·subst c16
           have H1 : ((squelchref04_Right.f k1 ((rd_T23 l0 x15_1).f0) ((rd_T23 l0 x15_1).f1)).bind fun t462 => (squelchlaw04_CallDistinct.j1 k1 l0 t462 x15_1 l0 (l0.length : Int) x15_1 ((rd_T23 l0 x15_1).f0) ((rd_T23 l0 x15_1).f1))) = some r := by rw [if_pos rfl] at H; exact H
           clear H
           have H := H1
           clear H1
           replace H := Option.bind_eq_some_iff.mp H
           obtain ⟨t462, A170, H⟩ := H
           replace H : (squelchlaw04_CallDistinct.j1 k1 l0 t462 x15_1 l0 (l0.length : Int) x15_1 ((rd_T23 l0 x15_1).f0) ((rd_T23 l0 x15_1).f1)) = some r := H
           have A17 := Aside0.mk A170
           clear A170
           have H' := Aside0.mk H
           clear H
           have hcz18_0 : w14.cell? ⟨gb461, 0, none⟩ = some (.string (⟨#[]⟩ : ByteArray)) := (blk_cell BK461.out 0).trans rfl
           have hcz18_1 : w14.cell? ⟨gb461, 1, none⟩ = some (.int .i64 0) := (blk_cell BK461.out 1).trans rfl
           have hfz18_0 := blk_frozen BK461.out 0
           have hfz18_1 := blk_frozen BK461.out 1
           go_wp2_with (first | (go_at_call 39; (with_reducible refine (squelchref04_Right.calls k1 ((rd_T23 l0 x15_1).f0) ((rd_T23 l0 x15_1).f1) t462 _ A17.out).mono ?_); rintro e w19 ⟨rfl, hb⟩; have n0_ := Aside0.mk (blk_below (g := gb461) (o := .cells #[.string ((rd_T23 l0 x15_1).f0), .int .i64 ((rd_T23 l0 x15_1).f1)] 23 (0, 0)) (by (with_reducible repeat (first | refine blk_drewN ?_ _ | refine blk_drew ?_ | refine blk_alloc ?_ _)); refine blk_put (cs := #[.string ((rd_T23 l0 x15_1).f0), .int .i64 0]) ?_ 1 _ rfl; (with_reducible repeat (first | refine blk_drewN ?_ _ | refine blk_drew ?_ | refine blk_alloc ?_ _)); refine blk_put (cs := #[.string (⟨#[]⟩ : ByteArray), .int .i64 0]) ?_ 0 _ rfl; (with_reducible repeat (first | refine blk_drewN ?_ _ | refine blk_drew ?_ | refine blk_alloc ?_ _)); exact BK461.out) hb); have n1_ := Aside0.mk (below_step (by repeat (first | (with_reducible first | exact HB.out | apply below_alloc | apply pw_below_drewN | apply below_drew1 | refine below_set ?_ GE461.out) | exact HB.out)) hb); clear BK461; clear HB; have BK461 := n0_; have HB := n1_; clear n0_ n1_; (try clear hb); (try clear hb2); (try clear hk); (try clear hi)))
           go_meet
           case rel => exact ⟨_, (t462), (by first | rfl | (simp; done) | (simp [*]; done) | (simp; exact (fun l : List UInt8 => (by cases l <;> rfl : l.isEmpty = !(l != []))) _)), H', ⟨by have := HK1.out; first | omega | exact Nat.le_refl _⟩, ⟨by (with_reducible repeat (first | refine blk_drewN ?_ _ | refine blk_drew ?_ | refine blk_alloc ?_ _)); exact BK461.out⟩, ⟨by repeat (first | (with_reducible first | exact HB.out | apply below_alloc | apply pw_below_drewN | apply below_drew1 | refine below_set ?_ GE461.out) | exact HB.out)⟩⟩
          ·replace c16 := Bool.eq_false_iff.mpr c16
           subst c16
           have H1 : (squelchlaw04_CallDistinct.j1 k1 l0 false x15_1 l0 (l0.length : Int) x15_1 ((rd_T23 l0 x15_1).f0) ((rd_T23 l0 x15_1).f1)) = some r := by rw [if_neg (show ¬ (false = true) by decide)] at H; exact H
           clear H
           have H := H1
           clear H1
           have H' := Aside0.mk H
           clear H
           go_wp2
           go_meet
           case rel => exact ⟨_, (false), (by first | rfl | (simp; done) | (simp [*]; done) | (simp; exact (fun l : List UInt8 => (by cases l <;> rfl : l.isEmpty = !(l != []))) _)), H', ⟨by have := HK1.out; first | omega | exact Nat.le_refl _⟩, ⟨by (with_reducible repeat (first | refine blk_drewN ?_ _ | refine blk_drew ?_ | refine blk_alloc ?_ _)); refine blk_put (cs := #[.string ((rd_T23 l0 x15_1).f0), .int .i64 0]) ?_ 1 _ rfl; (with_reducible repeat (first | refine blk_drewN ?_ _ | refine blk_drew ?_ | refine blk_alloc ?_ _)); refine blk_put (cs := #[.string (⟨#[]⟩ : ByteArray), .int .i64 0]) ?_ 0 _ rfl; (with_reducible repeat (first | refine blk_drewN ?_ _ | refine blk_drew ?_ | refine blk_alloc ?_ _)); exact BK461.out⟩, ⟨by repeat (first | (with_reducible first | exact HB.out | apply below_alloc | apply pw_below_drewN | apply below_drew1 | refine below_set ?_ GE461.out) | exact HB.out)⟩⟩
         case rest =>
          clear HC13
          try clear c1
          try clear p2
          try clear c3
          try clear c4
          try clear c4b0
          try clear c4b1
          try clear p4
          try clear q4
          try clear hx4
          try clear c7
          try clear c7b0
          try clear c8
          try clear c8b0
          try clear c9
          try clear c9b0
          try clear c10
          try clear c10b0
          try clear c10b1
          try clear c16
          try clear hcz12_0
          try clear hcz12_1
          try clear hcz15_0
          try clear hcz15_1
          try clear hcz18_0
          try clear hcz18_1
          try clear hfz12_0
          try clear hfz12_1
          try clear hfz15_0
          try clear hfz15_1
          try clear hfz18_0
          try clear hfz18_1
          try clear hx460_0
          try clear hx460_1
          try clear p2
          try clear p460
          try clear q460
          obtain ⟨kq, x3_12, rfl, HA, HJ12, BK461, HB⟩ := hcut
          cases kq with
          | zero => exact absurd HA.out (by simp [squelchlaw04_CallDistinct.j1])
          | succ kj12 =>
           have H := HA.out
           clear HA
           simp only [squelchlaw04_CallDistinct.j1] at H
           by_cases c20 : 0 ≤ x15_1
           ·rw [if_pos c20] at H
            have c20b0 := eq_true c20
            have c20b1 : decide (0 ≤ x15_1) = true := decide_eq_true c20
            clear c20
            by_cases c21 : x15_1 ≤ (l0.length : Int)
            ·rw [if_pos c21] at H
             have c21b0 := eq_true c21
             have c21b1 : decide (x15_1 ≤ (l0.length : Int)) = true := decide_eq_true c21
             clear c21
             obtain ⟨y463, hy463⟩ : ∃ y_ : List (S23), y_ = (l0.take (x15_1 : Int).toNat) := ⟨_, rfl⟩
             replace H : (squelchlaw04_CallDistinct.l1 kj12 l0 x3_12 l0 (l0.length : Int) x15_1 y463 (y463.length : Int) 0 ((rd_T23 l0 x15_1).f0) ((rd_T23 l0 x15_1).f1)) = some r := by first | (rw [hy463]; with_reducible exact H) | (have H2_ := (Option.bind_some _ _).symm.trans H; rw [hy463]; with_reducible exact H2_) | (have H2_ := (Option.bind_some _ _).symm.trans H; with_reducible exact H2_) | with_reducible exact H | (rw [hy463]; exact H) | exact H
             have Ny463 := Aside0.mk hy463
             clear hy463
             have H' := Aside0.mk H
             clear H
             have q22 : (x15_1 : Int) ≤ ((l0.length : Int) : Int) := of_decide_eq_true (by first | (with_reducible assumption) | assumption)
             obtain ⟨i022, hi022, _, hsz22, _⟩ := info_parts info23
             have hroom22 : l0.length ≤ c0 := HC0.out
             have hC22 : Kd.C k23 _ (some ad460) l0.length l0 := HR0.out
             have hcut22 := cut_to (P := Tryd.prog) 45 23 .i64 Tryd.underlying45 hi022 (some ad460) l0.length c0 x15_1 (of_decide_eq_true (by first | (with_reducible assumption) | assumption)) q22 hroom22
             have hr22 := Kd.C_take (m := (x15_1 : Int).toNat) hC22 (by omega)
             have hy22 : y463.length = (x15_1 : Int).toNat := (by rw [Ny463.out, List.length_take]; omega)
             rw [← Ny463.out] at hr22
             rw [← hy22] at hcut22
             have HR466 := Aside0.mk hr22
             have HC466 := Aside0.mk (show y463.length ≤ c0 from by omega)
             clear hr22 hC22 hroom22 hi022 hsz22
             have KY22 := Aside0.mk hy22
             clear hy22
             replace q22 := eq_true q22
             go_wp2
             go_loopg [3, 33] kj12 (fun kq v3 v33 w' => ∃ (x3_3 : Bool) (x33_3 : Int), v3 = .bool x3_3 ∧ v33 = .int .i64 x33_3 ∧ Aside0 (squelchlaw04_CallDistinct.l1 kq l0 x3_3 l0 (l0.length : Int) x15_1 y463 (y463.length : Int) x33_3 ((rd_T23 l0 x15_1).f0) ((rd_T23 l0 x15_1).f1) = some r) ∧ Aside0 (kq ≤ kj12) ∧ Aside0 (w'.heap[gb461]? = some (.cells #[.string ((rd_T23 l0 x15_1).f0), .int .i64 ((rd_T23 l0 x15_1).f1)] 23 (0, 0))) ∧ Aside0 (Below w.heap.size w w'))
             case atStart => exact ⟨(x3_12), (0), (by first | rfl | (simp; done) | (simp [*]; done) | (simp; exact (fun l : List UInt8 => (by cases l <;> rfl : l.isEmpty = !(l != []))) _)), (by first | rfl | (simp; done) | (simp [*]; done) | (simp; exact (fun l : List UInt8 => (by cases l <;> rfl : l.isEmpty = !(l != []))) _)), H', ⟨Nat.le_refl _⟩, ⟨by (with_reducible repeat (first | refine blk_drewN ?_ _ | refine blk_drew ?_ | refine blk_alloc ?_ _)); exact BK461.out⟩, ⟨by repeat (first | (with_reducible first | exact HB.out | apply below_alloc | apply pw_below_drewN | apply below_drew1 | refine below_set ?_ GE461.out) | exact HB.out)⟩⟩
             case round =>
              clear H'
              try clear c1
              try clear c2
              try clear p2
              try clear q2
              try clear c3
              try clear c4
              try clear c4b0
              try clear c4b1
              try clear p4
              try clear q4
              try clear hx4
              try clear c7
              try clear c7b0
              try clear c8
              try clear c8b0
              try clear c9
              try clear c9b0
              try clear c10
              try clear c10b0
              try clear c10b1
              try clear c16
              try clear c20
              try clear c20b0
              try clear c20b1
              try clear c21
              try clear c21b0
              try clear c21b1
              try clear q22
              try clear hcz12_0
              try clear hcz12_1
              try clear hcz15_0
              try clear hcz15_1
              try clear hcz18_0
              try clear hcz18_1
              try clear hfz12_0
              try clear hfz12_1
              try clear hfz15_0
              try clear hfz15_1
              try clear hfz18_0
              try clear hfz18_1
              try clear hx460_0
              try clear hx460_1
              try clear p2
              try clear p4
              try clear p460
              try clear q22
              try clear q4
              try clear q460
              obtain ⟨x3_3, x33_3, rfl, rfl, HA, HK3, BK461, HB⟩ := hrel
              cases gk with
              | zero => exact absurd HA.out (by simp [squelchlaw04_CallDistinct.l1])
              | succ k3 =>
               have H := HA.out
               clear HA
               simp only [squelchlaw04_CallDistinct.l1] at H
               by_cases c23 : x33_3 < (y463.length : Int)
               ·rw [if_pos c23] at H
                have c23b0 : decide (x33_3 < (y463.length : Int)) = true := decide_eq_true c23
                clear c23
                by_cases c24 : 0 ≤ x33_3
                ·rw [if_pos c24] at H
                 have c24b0 : decide (0 ≤ x33_3) = true := decide_eq_true c24
                 clear c24
                 by_cases c25 : x33_3 < (y463.length : Int)
                 ·rw [if_pos c25] at H
                  have c25b0 : decide (x33_3 < (y463.length : Int)) = true := decide_eq_true c25
                  clear c25
                  by_cases c26 : x3_3 = true
                  ·subst c26
                   have H1 : (squelchlaw04_CallDistinct.l1 k3 l0 (!(((rd_T23 l0 x15_1).f0).toList == (((rd_T23 y463 x33_3).f0).toList)) || (!(((rd_T23 l0 x15_1).f1) == ((rd_T23 y463 x33_3).f1)))) l0 (l0.length : Int) x15_1 y463 (y463.length : Int) (wrap64 (x33_3 + 1)) ((rd_T23 l0 x15_1).f0) ((rd_T23 l0 x15_1).f1)) = some r := by rw [if_pos rfl] at H; exact H
                   clear H
                   have H := H1
                   clear H1
                   have H' := Aside0.mk H
                   clear H
                   have p467 : 0 ≤ (x33_3 : Int) := of_decide_eq_true (by first | (with_reducible assumption) | assumption)
                   have q467 : x33_3 < (y463.length : Int) := of_decide_eq_true (by first | (with_reducible assumption) | assumption)
                   obtain ⟨ad467, e467, hx467_0, hx467_1⟩ := at_T23 HR466.out x33_3 p467 q467
                   obtain rfl : ad460 = ad467 := (by injection e467)
                   replace hx467_0 := (HB.out.cell (World.block_lt_of_cell? w _ hx467_0)).trans hx467_0
                   replace hx467_1 := (HB.out.cell (World.block_lt_of_cell? w _ hx467_1)).trans hx467_1
                   replace p467 := eq_true p467
                   replace q467 := eq_true q467
                   go_wp2_with (first | ((with_reducible refine gate_dst (N := 7) rfl ?_); refine box_event ?hg (N := 7) ?hd (cs := #[.string (⟨#[]⟩ : ByteArray), .int .i64 0]) (t := 23) ?hr ?_; (case hd => rfl); (case hg => rfl); (case hr => first | (go_simp; done) | (go_simp; rfl)); intro gb468 hg w27 hbox hb; have n0_ := Aside0.mk (blk_below (g := gb461) (o := .cells #[.string ((rd_T23 l0 x15_1).f0), .int .i64 ((rd_T23 l0 x15_1).f1)] 23 (0, 0)) (by (with_reducible repeat (first | refine blk_drewN ?_ _ | refine blk_drew ?_ | refine blk_alloc ?_ _)); exact BK461.out) hb); have n1_ := Aside0.mk (below_step (by repeat (first | (with_reducible first | exact HB.out | apply below_alloc | apply pw_below_drewN | apply below_drew1 | refine below_set ?_ GE461.out) | exact HB.out)) hb); have n2_ := Aside0.mk (hbox); have n3_ := Aside0.mk ((by rw [hg]; exact (below_size (by repeat (first | (with_reducible first | exact HB.out | apply below_alloc | apply pw_below_drewN | apply below_drew1 | refine below_set ?_ GE461.out) | exact HB.out))) : w.heap.size ≤ gb468)); have n4_ := Aside0.mk ((by rw [hg]; exact (below_size (by repeat (first | (with_reducible first | exact HB.out | apply below_alloc | apply pw_below_drewN | apply below_drew1 | refine below_set ?_ GE461.out) | exact HB.out))) : w.heap.size ≤ gb468)); have n5_ := Aside0.mk ((by rw [hg]; exact Nat.ne_of_lt (blk_lt (g := gb461) (o := .cells #[.string ((rd_T23 l0 x15_1).f0), .int .i64 ((rd_T23 l0 x15_1).f1)] 23 (0, 0)) (by (with_reducible repeat (first | refine blk_drewN ?_ _ | refine blk_drew ?_ | refine blk_alloc ?_ _)); exact BK461.out)) : gb461 ≠ gb468)); have n6_ := Aside0.mk ((by rw [hg]; exact Nat.ne_of_gt (blk_lt (g := gb461) (o := .cells #[.string ((rd_T23 l0 x15_1).f0), .int .i64 ((rd_T23 l0 x15_1).f1)] 23 (0, 0)) (by (with_reducible repeat (first | refine blk_drewN ?_ _ | refine blk_drew ?_ | refine blk_alloc ?_ _)); exact BK461.out)) : gb468 ≠ gb461)); clear BK461; clear HB; have BK461 := n0_; have HB := n1_; have BK468 := n2_; have GW468 := n3_; have GE468 := n4_; have NB461_468 := n5_; have NB468_461 := n6_; clear n0_ n1_ n2_ n3_ n4_ n5_ n6_; clear hb hbox hg; have hnb28 := NB468_461.out; have hnc28 := NB461_468.out; have hcz29_0 : w27.cell? ⟨gb468, 0, none⟩ = some (.string (⟨#[]⟩ : ByteArray)) := (blk_cell BK468.out 0).trans rfl; have hcz29_1 : w27.cell? ⟨gb468, 1, none⟩ = some (.int .i64 0) := (blk_cell BK468.out 1).trans rfl; have hfz29_0 := blk_frozen BK468.out 0; have hfz29_1 := blk_frozen BK468.out 1; have hcz30_0 : w27.cell? ⟨gb461, 0, none⟩ = some (.string ((rd_T23 l0 x15_1).f0)) := (blk_cell BK461.out 0).trans rfl; have hcz30_1 : w27.cell? ⟨gb461, 1, none⟩ = some (.int .i64 ((rd_T23 l0 x15_1).f1)) := (blk_cell BK461.out 1).trans rfl; have hfz30_0 := blk_frozen BK461.out 0; have hfz30_1 := blk_frozen BK461.out 1))
                   go_roundg k3
                   case measure => have := HK1.out; have := HJ12.out; have := HK3.out; omega
                   case rel => exact ⟨((!(((rd_T23 l0 x15_1).f0).toList == (((rd_T23 y463 x33_3).f0).toList)) || (!(((rd_T23 l0 x15_1).f1) == ((rd_T23 y463 x33_3).f1))))), (wrap64 (x33_3 + 1)), (by first | rfl | (simp; done) | (simp [*]; done) | (simp; exact (fun l : List UInt8 => (by cases l <;> rfl : l.isEmpty = !(l != []))) _)), (by first | rfl | (simp; done) | (simp [*]; done) | (simp; exact (fun l : List UInt8 => (by cases l <;> rfl : l.isEmpty = !(l != []))) _)), H', ⟨by have := HK1.out; have := HJ12.out; have := HK3.out; omega⟩, ⟨by (with_reducible repeat (first | refine blk_drewN ?_ _ | refine blk_drew ?_ | refine blk_alloc ?_ _)); refine blk_far ?_ NB461_468.out _; (with_reducible repeat (first | refine blk_drewN ?_ _ | refine blk_drew ?_ | refine blk_alloc ?_ _)); refine blk_far ?_ NB461_468.out _; (with_reducible repeat (first | refine blk_drewN ?_ _ | refine blk_drew ?_ | refine blk_alloc ?_ _)); exact BK461.out⟩, ⟨by repeat (first | (with_reducible first | exact HB.out | apply below_alloc | apply pw_below_drewN | apply below_drew1 | refine below_set ?_ GE461.out | refine below_set ?_ GE468.out) | exact HB.out)⟩⟩
                  ·replace c26 := Bool.eq_false_iff.mpr c26
                   subst c26
                   have H1 : (squelchlaw04_CallDistinct.l1 k3 l0 false l0 (l0.length : Int) x15_1 y463 (y463.length : Int) (wrap64 (x33_3 + 1)) ((rd_T23 l0 x15_1).f0) ((rd_T23 l0 x15_1).f1)) = some r := by rw [if_neg (show ¬ (false = true) by decide)] at H; exact H
                   clear H
                   have H := H1
                   clear H1
                   have H' := Aside0.mk H
                   clear H
                   have p467 : 0 ≤ (x33_3 : Int) := of_decide_eq_true (by first | (with_reducible assumption) | assumption)
                   have q467 : x33_3 < (y463.length : Int) := of_decide_eq_true (by first | (with_reducible assumption) | assumption)
                   obtain ⟨ad467, e467, hx467_0, hx467_1⟩ := at_T23 HR466.out x33_3 p467 q467
                   obtain rfl : ad460 = ad467 := (by injection e467)
                   replace hx467_0 := (HB.out.cell (World.block_lt_of_cell? w _ hx467_0)).trans hx467_0
                   replace hx467_1 := (HB.out.cell (World.block_lt_of_cell? w _ hx467_1)).trans hx467_1
                   replace p467 := eq_true p467
                   replace q467 := eq_true q467
                   go_wp2_with (first | ((with_reducible refine gate_dst (N := 7) rfl ?_); refine box_event ?hg (N := 7) ?hd (cs := #[.string (⟨#[]⟩ : ByteArray), .int .i64 0]) (t := 23) ?hr ?_; (case hd => rfl); (case hg => rfl); (case hr => first | (go_simp; done) | (go_simp; rfl)); intro gb468 hg w31 hbox hb; have n0_ := Aside0.mk (blk_below (g := gb461) (o := .cells #[.string ((rd_T23 l0 x15_1).f0), .int .i64 ((rd_T23 l0 x15_1).f1)] 23 (0, 0)) (by (with_reducible repeat (first | refine blk_drewN ?_ _ | refine blk_drew ?_ | refine blk_alloc ?_ _)); exact BK461.out) hb); have n1_ := Aside0.mk (below_step (by repeat (first | (with_reducible first | exact HB.out | apply below_alloc | apply pw_below_drewN | apply below_drew1 | refine below_set ?_ GE461.out) | exact HB.out)) hb); have n2_ := Aside0.mk (hbox); have n3_ := Aside0.mk ((by rw [hg]; exact (below_size (by repeat (first | (with_reducible first | exact HB.out | apply below_alloc | apply pw_below_drewN | apply below_drew1 | refine below_set ?_ GE461.out) | exact HB.out))) : w.heap.size ≤ gb468)); have n4_ := Aside0.mk ((by rw [hg]; exact (below_size (by repeat (first | (with_reducible first | exact HB.out | apply below_alloc | apply pw_below_drewN | apply below_drew1 | refine below_set ?_ GE461.out) | exact HB.out))) : w.heap.size ≤ gb468)); have n5_ := Aside0.mk ((by rw [hg]; exact Nat.ne_of_lt (blk_lt (g := gb461) (o := .cells #[.string ((rd_T23 l0 x15_1).f0), .int .i64 ((rd_T23 l0 x15_1).f1)] 23 (0, 0)) (by (with_reducible repeat (first | refine blk_drewN ?_ _ | refine blk_drew ?_ | refine blk_alloc ?_ _)); exact BK461.out)) : gb461 ≠ gb468)); have n6_ := Aside0.mk ((by rw [hg]; exact Nat.ne_of_gt (blk_lt (g := gb461) (o := .cells #[.string ((rd_T23 l0 x15_1).f0), .int .i64 ((rd_T23 l0 x15_1).f1)] 23 (0, 0)) (by (with_reducible repeat (first | refine blk_drewN ?_ _ | refine blk_drew ?_ | refine blk_alloc ?_ _)); exact BK461.out)) : gb468 ≠ gb461)); clear BK461; clear HB; have BK461 := n0_; have HB := n1_; have BK468 := n2_; have GW468 := n3_; have GE468 := n4_; have NB461_468 := n5_; have NB468_461 := n6_; clear n0_ n1_ n2_ n3_ n4_ n5_ n6_; clear hb hbox hg; have hnb32 := NB468_461.out; have hnc32 := NB461_468.out; have hcz33_0 : w31.cell? ⟨gb468, 0, none⟩ = some (.string (⟨#[]⟩ : ByteArray)) := (blk_cell BK468.out 0).trans rfl; have hcz33_1 : w31.cell? ⟨gb468, 1, none⟩ = some (.int .i64 0) := (blk_cell BK468.out 1).trans rfl; have hfz33_0 := blk_frozen BK468.out 0; have hfz33_1 := blk_frozen BK468.out 1))
                   go_roundg k3
                   case measure => have := HK1.out; have := HJ12.out; have := HK3.out; omega
                   case rel => exact ⟨(false), (wrap64 (x33_3 + 1)), (by first | rfl | (simp; done) | (simp [*]; done) | (simp; exact (fun l : List UInt8 => (by cases l <;> rfl : l.isEmpty = !(l != []))) _)), (by first | rfl | (simp; done) | (simp [*]; done) | (simp; exact (fun l : List UInt8 => (by cases l <;> rfl : l.isEmpty = !(l != []))) _)), H', ⟨by have := HK1.out; have := HJ12.out; have := HK3.out; omega⟩, ⟨by (with_reducible repeat (first | refine blk_drewN ?_ _ | refine blk_drew ?_ | refine blk_alloc ?_ _)); refine blk_far ?_ NB461_468.out _; (with_reducible repeat (first | refine blk_drewN ?_ _ | refine blk_drew ?_ | refine blk_alloc ?_ _)); refine blk_far ?_ NB461_468.out _; (with_reducible repeat (first | refine blk_drewN ?_ _ | refine blk_drew ?_ | refine blk_alloc ?_ _)); exact BK461.out⟩, ⟨by repeat (first | (with_reducible first | exact HB.out | apply below_alloc | apply pw_below_drewN | apply below_drew1 | refine below_set ?_ GE461.out | refine below_set ?_ GE468.out) | exact HB.out)⟩⟩
                 ·rw [if_neg c25] at H
                  exact absurd H (by simp)
                ·rw [if_neg c24] at H
                 exact absurd H (by simp)
               ·rw [if_neg c23] at H
                have c23b0 : decide (x33_3 < (y463.length : Int)) = false := decide_eq_false c23
                clear c23
                have H' := Aside0.mk H
                clear H
                go_wp2
                go_roundg k3
                case measure => have := HK1.out; have := HJ12.out; have := HK3.out; omega
                case rel => exact ⟨(x3_3), (wrap64 (x15_1 + 1)), (by first | rfl | (simp; done) | (simp [*]; done) | (simp; exact (fun l : List UInt8 => (by cases l <;> rfl : l.isEmpty = !(l != []))) _)), (by first | rfl | (simp; done) | (simp [*]; done) | (simp; exact (fun l : List UInt8 => (by cases l <;> rfl : l.isEmpty = !(l != []))) _)), H', ⟨by have := HK1.out; have := HJ12.out; have := HK3.out; omega⟩, ⟨by repeat (first | (with_reducible first | exact HB.out | apply below_alloc | apply pw_below_drewN | apply below_drew1 | refine below_set ?_ GE461.out) | exact HB.out)⟩⟩
            ·rw [if_neg c21] at H
             exact absurd H (by simp)
           ·rw [if_neg c20] at H
            exact absurd H (by simp)
       ·rw [if_neg c9] at H
        exact absurd H (by simp)
      ·rw [if_neg c8] at H
       exact absurd H (by simp)
     ·rw [if_neg c7] at H
      have c7b0 : decide (x15_1 < (l0.length : Int)) = false := decide_eq_false c7
      clear c7
      replace H := Option.bind_eq_some_iff.mp H
      obtain ⟨t459, A340, H⟩ := H
      replace H : (some (t459 == x3_1)) = some r := H
      have A34 := Aside0.mk A340
      clear A340
      obtain rfl := Option.some.inj H
      go_wp2_with (first | ((with_reducible refine gate_callee (f := 45) rfl ?_); refine goesL_ (some 46) rfl rfl Tryd.func45 (by kernel_rfl) rfl #[.slice A0 l0.length c0] rfl (by (try simp only [List.map_toArray, List.map_cons, List.map_nil]); first | done | rfl | (simp only [List.length_drop, List.length_take]; rfl)) ?_; (with_reducible refine (call_Distinct.calls _ _ l0 t459 _ ?side1 ?side2 A34.out).mono ?_); (case side1 => repeat (first | exact (Kd.C_below HR0.out HB.out) | (with_reducible refine Kd.C_alloc ?_ _) | (with_reducible refine Kd.C_drewN ?_ _) | (with_reducible refine Kd.C_drew ?_))); (case side2 => exact HC0.out); rintro e w35 ⟨rfl, hb⟩; refine ⟨_, rfl, ?_⟩; have n0_ := Aside0.mk (below_step (by repeat (first | (with_reducible first | exact HB.out | apply below_alloc | apply pw_below_drewN | apply below_drew1) | exact HB.out)) hb); clear HB; have HB := n0_; clear n0_; (try clear hb); (try clear hb2); (try clear hk); (try clear hi)))
      go_ret
      exact ⟨by first | rfl | (simp [errW_none, errW_some] <;> rfl) | (simp [*, errW_none, errW_some] <;> rfl), by repeat (first | (with_reducible first | exact HB.out | apply below_alloc | apply pw_below_drewN | apply below_drew1) | exact HB.out)⟩
 ·replace c3 := Bool.eq_false_iff.mpr c3
  subst c3
  have H1 : (some false) = some r := by rw [if_neg (show ¬ (false = true) by decide)] at H; exact H
  clear H
  have H := H1
  clear H1
  exact absurd ((Option.some.inj H).trans HT_.out) (by decide)

end Go.Proofs.YtpmieapgbdbabaaDoor.QAll
end

section
/- Walks, written by a program of this session (wip/pp): a Go function comes to what the Lean function beside it tells. -/
namespace Go.Proofs.YtpmieapgbdbabaaDoor.QAll
open Go.RowKit Go.Proofs.YtpmieapgbdbabaaDoorW.PrintWords Go.Proofs.YtpmieapgbdbabaaDoorW.PrintLast Go.Proofs.YtpmieapgbdbabaaDoorW.PrintMore
set_option linter.unusedVariables false
set_option linter.unusedSimpArgs false

def squelchref04_Digits.f (a0 : Int) : Option (ByteArray) := if a0 < 10 then (if 0 ≤ a0 then (if a0 ≤ (wrap64 (a0 + 1)) then (if (wrap64 (a0 + 1)) ≤ 10 then (some ((⟨#[48, 49, 50, 51, 52, 53, 54, 55, 56, 57]⟩ : ByteArray).extract (a0 : Int).toNat ((wrap64 (a0 + 1)) : Int).toNat)) else (none)) else (none)) else (none)) else (if 0 ≤ (wrap64 (Int.tdiv a0 10)) then (if (wrap64 (Int.tdiv a0 10)) ≤ (wrap64 ((wrap64 (Int.tdiv a0 10)) + 1)) then (if (wrap64 ((wrap64 (Int.tdiv a0 10)) + 1)) ≤ 10 then (if 0 ≤ (Int.tmod a0 10) then (if (Int.tmod a0 10) ≤ (wrap64 ((Int.tmod a0 10) + 1)) then (if (wrap64 ((Int.tmod a0 10) + 1)) ≤ 10 then (if ((⟨#[48, 49, 50, 51, 52, 53, 54, 55, 56, 57]⟩ : ByteArray).extract ((wrap64 (Int.tdiv a0 10)) : Int).toNat ((wrap64 ((wrap64 (Int.tdiv a0 10)) + 1)) : Int).toNat).size + ((⟨#[48, 49, 50, 51, 52, 53, 54, 55, 56, 57]⟩ : ByteArray).extract ((Int.tmod a0 10) : Int).toNat ((wrap64 ((Int.tmod a0 10) + 1)) : Int).toNat).size ≤ 9223372036854775807 then (some (((⟨#[48, 49, 50, 51, 52, 53, 54, 55, 56, 57]⟩ : ByteArray).extract ((wrap64 (Int.tdiv a0 10)) : Int).toNat ((wrap64 ((wrap64 (Int.tdiv a0 10)) + 1)) : Int).toNat) ++ ((⟨#[48, 49, 50, 51, 52, 53, 54, 55, 56, 57]⟩ : ByteArray).extract ((Int.tmod a0 10) : Int).toNat ((wrap64 ((Int.tmod a0 10) + 1)) : Int).toNat))) else (none)) else (none)) else (none)) else (none)) else (none)) else (none)) else (none))
end Go.Proofs.YtpmieapgbdbabaaDoor.QAll
end

section
/- Walks, written by a program of this session (wip/pp): a Go function comes to what the Lean function beside it tells. -/
namespace Go.Proofs.YtpmieapgbdbabaaDoor.QAll
open Go.RowKit Go.Proofs.YtpmieapgbdbabaaDoorW.PrintWords Go.Proofs.YtpmieapgbdbabaaDoorW.PrintLast Go.Proofs.YtpmieapgbdbabaaDoorW.PrintMore
set_option linter.unusedVariables false
set_option linter.unusedSimpArgs false

mutual
def squelchref04_Parse.l0 : Nat → ByteArray → Int → ByteArray → Int → Option (ByteArray × Int × Bool)
 | 0, _, _, _, _ => none
 | k + 1, x0, x5, x426000, x426001 => if x5 < (x0.size : Int) then (if 0 ≤ x5 then (squelchref04_Parse.j1 k x0 x5 ((bt x0 x5) != 45) x426000 x426001) else (none)) else (squelchref04_Parse.j1 k x0 x5 false x426000 x426001)
def squelchref04_Parse.j1 : Nat → ByteArray → Int → Bool → ByteArray → Int → Option (ByteArray × Int × Bool)
 | 0, _, _, _, _, _ => none
 | k + 1, x0, x5, x19, x426000, x426001 => if x19 = true then (if 0 ≤ x5 then (if x5 < (x0.size : Int) then (if (bt x0 x5) ≥ 97 then (if (bt x0 x5) ≤ 122 then ((some (([((bt x0 x5) - 32) % 256] : List Int) : List Int)).bind fun y426 => (if x426000.size + (strOfNums y426).size ≤ 9223372036854775807 then (squelchref04_Parse.l0 k x0 (wrap64 (x5 + 1)) (x426000 ++ (strOfNums y426)) x426001) else (none))) else ((some (([bt x0 x5] : List Int) : List Int)).bind fun y429 => (if x426000.size + (strOfNums y429).size ≤ 9223372036854775807 then (squelchref04_Parse.l0 k x0 (wrap64 (x5 + 1)) (x426000 ++ (strOfNums y429)) x426001) else (none)))) else ((some (([bt x0 x5] : List Int) : List Int)).bind fun y432 => (if x426000.size + (strOfNums y432).size ≤ 9223372036854775807 then (squelchref04_Parse.l0 k x0 (wrap64 (x5 + 1)) (x426000 ++ (strOfNums y432)) x426001) else (none)))) else (none)) else (none)) else (if x5 < (x0.size : Int) then (squelchref04_Parse.l1 k x0 x5 false 0 x426000 x426001) else ((squelchref04_Right.f k x426000 x426001).bind fun t437 => (if t437 = true then (some (x426000, x426001, true)) else (some ((⟨#[]⟩ : ByteArray), 0, false)))))
def squelchref04_Parse.l1 : Nat → ByteArray → Int → Bool → Int → ByteArray → Int → Option (ByteArray × Int × Bool)
 | 0, _, _, _, _, _, _ => none
 | k + 1, x0, x5, x7, x8, x426000, x426001 => if x8 ≤ 15 then ((squelchref04_Digits.f x8).bind fun t435 => (if 0 ≤ (wrap64 (x5 + 1)) then (if (wrap64 (x5 + 1)) ≤ (x0.size : Int) then (if t435.toList = (x0.extract ((wrap64 (x5 + 1)) : Int).toNat x0.size).toList then (squelchref04_Parse.l1 k x0 x5 true (wrap64 (x8 + 1)) x426000 x8) else (squelchref04_Parse.l1 k x0 x5 x7 (wrap64 (x8 + 1)) x426000 x426001)) else (none)) else (none))) else (if x7 = true then ((squelchref04_Right.f k x426000 x426001).bind fun t436 => (if t436 = true then (some (x426000, x426001, true)) else (some ((⟨#[]⟩ : ByteArray), 0, false)))) else (some ((⟨#[]⟩ : ByteArray), 0, false)))
end
def squelchref04_Parse.f (k : Nat) (a0 : ByteArray) : Option (ByteArray × Int × Bool) := squelchref04_Parse.l0 k a0 0 (⟨#[]⟩ : ByteArray) 0
end Go.Proofs.YtpmieapgbdbabaaDoor.QAll
end

section
/- Walks, written by a program of this session (wip/pp): a Go function comes to what the Lean function beside it tells. -/
namespace Go.Proofs.YtpmieapgbdbabaaDoor.QAll
open Go.RowKit Go.Proofs.YtpmieapgbdbabaaDoorW.PrintWords Go.Proofs.YtpmieapgbdbabaaDoorW.PrintLast Go.Proofs.YtpmieapgbdbabaaDoorW.PrintMore
set_option linter.unusedVariables false
set_option linter.unusedSimpArgs false

def squelchref04_Text.f (a0_0 : ByteArray) (a0_1 : Int) : Option (ByteArray) := if a0_1 = 0 then (some a0_0) else (if a0_0.size + 1 ≤ 9223372036854775807 then ((squelchref04_Digits.f a0_1).bind fun t345 => (if (a0_0 ++ (⟨#[45]⟩ : ByteArray)).size + t345.size ≤ 9223372036854775807 then (some ((a0_0 ++ (⟨#[45]⟩ : ByteArray)) ++ t345)) else (none))) else (none))
end Go.Proofs.YtpmieapgbdbabaaDoor.QAll
end

section
/- strconv.Itoa of a number from 0 to 99, by the shelf's contract: its digits. -/
set_option linter.unusedVariables false
namespace Go.Proofs.YtpmieapgbdbabaaDoor.QAll
open Go.RowKit Go.Proofs.YtpmieapgbdbabaaDoorW.PrintWords Go.Proofs.YtpmieapgbdbabaaDoorW.PrintLast Go.Proofs.YtpmieapgbdbabaaDoorW.PrintMore
def strconv_Itoa_69.f (a0 : Int) : Option ByteArray := if 0 ≤ a0 ∧ a0 < 100 then some ⟨(Lib.decDigits a0.toNat).toArray⟩ else none
end Go.Proofs.YtpmieapgbdbabaaDoor.QAll
end
