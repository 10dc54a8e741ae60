/- Words, walks and plain laws that the row of the law ShellData rests on. -/
import Derived.Below
import Derived.Deep.Draws
import Derived.Deep.AppendLies
import Derived.Maps.AppendAt
import Derived.OwnWalk
import Derived.Laws.BytesArg
import Derived.Laws.MakeOwn
import Derived.Laws.OwnMore
import Derived.Deep.OwnRows
import Derived.Tactics
import Derived.Lib.ConvBytes
import Derived.Laws.Slices
import Derived.WalkKit
import Derived.KernelRfl
import Derived.RowKit3
import Derived.Deep.LoopGhost
import Derived.Deep.QuietTactic
import Derived.BigQuiet
import Derived.WideLaws
import Derived.Deep.DeepCutAuto
import Derived.Deep.CutBlock
import Derived.Deep.RegionHeld3
import Derived.Laws.Rows
import Derived.Lib.AppendStr
import Derived.ArgAppend
import Derived.Laws.IdiomCopy
import Derived.RowKit
import Derived.OrdersHeld
import Derived.Laws.BitsLemmas
import Derived.Laws.StructEq
import Derived.Test.YtgaboenipiojoaaGreatDoorProg
import Derived.Shelf.Strings.Builder1
import Derived.Shelf.Strings.Builder2
import Derived.Shelf.Strings.OnBuilder
import Derived.Shelf.Strings.Trim
import Derived.Shelf.Small.Utf8
import Derived.Shelf.Small.Strs
import Derived.Shelf.Strings.BuilderF
import Derived.Shelf.Strings.BuilderK
import Derived.Shelf.Strings.BuilderRune
import Derived.Shelf.Utf8.AppendRune
import Derived.Shelf.Utf8.AppendRunePlain
import Derived.Shelf.Utf8.RuneCount
import Derived.Shelf.Strings.Builder2Cap
import Derived.Shelf.Strconv.Atoi
import Derived.Shelf.Strconv.Itoa0
import Derived.Shelf.Strconv.Itoa1
import Derived.Shelf.LaysM
import Derived.Shelf.Strconv.Itoa2
import Derived.Shelf.Strconv.Itoa3
import Derived.Shelf.Strconv.AtoiErrFast
import Derived.Shelf.Strconv.ParseIntEmpty
import Derived.Shelf.Strconv.AtoiFail
import Derived.Shelf.Strconv.Clone
import Derived.Shelf.Strconv.SyntaxError
import Derived.Shelf.LaysC
import Derived.Shelf.Strconv.ToError
import Derived.Shelf.Strconv.AtoiErr
import Derived.Shelf.Strconv.ErrVar
import Derived.Shelf.Strconv.Lower
import Derived.Shelf.Strconv.ParseUint10
import Derived.Shelf.Strconv.ParseUint10Empty
import Derived.Shelf.Strconv.ParseUint10Any
import Derived.Shelf.Strconv.ParseInt10
import Derived.Shelf.Strconv.AtoiLong
import Derived.Shelf.Strconv.AtoiInnerAll
import Derived.Shelf.Strconv.RangeError
import Derived.Shelf.Strconv.ToErrorRange
import Derived.Shelf.Strconv.AtoiAll
import Derived.Shelf.Strconv.ErrVarAll
import Derived.Shelf.Strconv.ParseUintEmpty
import Derived.Shelf.Strconv.ParseUint10b64
import Derived.Shelf.Strconv.ParseUint10b32
import Derived.Shelf.Strconv.ParseUint10b16
import Derived.Shelf.Strconv.ParseUint10b8
import Derived.Shelf.Strconv.ParseUint10At
import Derived.Shelf.Strings.Search1
import Derived.Shelf.Strings.Search2
import Derived.Shelf.Strings.Search3
import Derived.Shelf.Strings.Cut
import Derived.Shelf.Strings.Count
import Derived.Shelf.Strings.Shaped
import Derived.Shelf.Strings.Prefix
import Derived.Shelf.Strings.Split
import Derived.Shelf.Strings.Fields
import Derived.Shelf.Strings.Replace
import Derived.Shelf.Strings.SplitShaped
import Derived.Shelf.Unicode.Latin
import Derived.Shelf.Unicode.Decode
import Derived.Shelf.Strings.Runes
import Derived.Shelf.Strings.RuneCount
import Derived.Shelf.Strings.AsciiSet
import Derived.Shelf.Bits.Mul64
import Derived.Shelf.Strings.Repeat
import Derived.Shelf.Unicode.DecodeSlow
import Derived.Shelf.Unicode.DecodeAny
import Derived.Shelf.Unicode.Is16White
import Derived.Shelf.Unicode.IsSpaceAny
import Derived.Shelf.Unicode.DecodeLast
import Derived.Shelf.Unicode.Is16WhiteD
import Derived.Shelf.Unicode.CaseLookup
import Derived.Shelf.Unicode.CaseConvert
import Derived.Shelf.Unicode.CaseTo
import Derived.Shelf.Unicode.CaseLaid
import Derived.Shelf.Unicode.Is16Any
import Derived.Shelf.Unicode.Is32Any
import Derived.Shelf.Unicode.ExclAny
import Derived.Shelf.Strings.BuilderCap
import Derived.RegionTactic
import Derived.WalkSpells
import Derived.Shelf.Strings.MapAny
import Derived.Shelf.Strings.FieldsFuncAny
import Derived.Lib.FieldsP
import Derived.Lib.DecodeN
import Derived.Lib.MapLaws
import Derived.WalkSmall
import Derived.Lib.AppendIntMem
section
set_option linter.unusedVariables false
set_option linter.unusedSimpArgs false
namespace Go.Proofs.YtgaboenipiojoaaGreatDoorW.PrintWords
open Go.RowKit

/-- A fact that the walk's simp doesn't look into. -/
structure Aside0 (p : Prop) : Prop where mk :: (out : p)
/-- The world is the old one, some orders having been drawn. -/
structure Drawn0 (w w' : World) : Prop where mk :: (out : ∃ n, w' = w.drewN n)
theorem Drawn0.refl (w : World) : Drawn0 w w := ⟨⟨0, rfl⟩⟩
theorem Drawn0.step {w w' : World} (h : Drawn0 w w') (n : Nat) : Drawn0 w (w'.drewN n) := by
  obtain ⟨m, rfl⟩ := h
  exact ⟨⟨m + n, World.drewN_drewN ..⟩⟩
theorem Drawn0.grown {w w' : World} (h : Drawn0 w w') : Grown w w' := by
  obtain ⟨n, rfl⟩ := h
  induction n with
  | zero => exact Grown.refl _
  | succ n ih => rw [← World.drew_drewN]; exact Grown.drew ih
theorem Drawn0.below {w w' : World} (h : Drawn0 w w') : Below w.heap.size w w' := by
  obtain ⟨n, rfl⟩ := h
  induction n with
  | zero => exact Below.refl _ _
  | succ n ih => rw [← World.drew_drewN]; exact ih.drew


def rd (xs : List Int) (i : Int) : Int := xs.getD i.toNat 0
def bt (s : ByteArray) (i : Int) : Int := if h : i.toNat < s.size then ((s[i.toNat]'h).toNat : Int) else 0
theorem bt_range (s : ByteArray) (i : Int) : 0 ≤ bt s i ∧ bt s i ≤ 255 := by
  unfold bt
  split
  · rename_i h
    have := (s[i.toNat]'h).toNat_lt
    omega
  · omega
theorem below_alloc {w W : World} (h : Below w.heap.size w W) (o : Obj) : Below w.heap.size w (W.alloc o) := h.alloc h.size o
theorem below_drew {B : Nat} {w W : World} (h : Below B w W) : Below B w W.drew := ⟨h.os, h.tape, h.output, h.size, h.block⟩
theorem pw_below_drewN {B : Nat} {w W : World} (h : Below B w W) (n : Nat) : Below B w (W.drewN n) := ⟨h.os, h.tape, h.output, h.size, h.block⟩
theorem below_then {B : Nat} {w w1 w2 : World} (h : Below B w w1) (hB : B ≤ w1.heap.size) (k : Below w1.heap.size w1 w2) : Below B w w2 :=
  h.trans ⟨k.os, k.tape, k.output, k.size, fun i hi => k.block i (Nat.lt_of_lt_of_le hi hB)⟩
theorem grown_of_below {w w1 : World} (h : Below w.heap.size w w1) (row : Option Nat) : w.grownBy w1 row := ⟨h.os, h.tape, h.output, h.size, fun i hi _ => h.block i hi⟩
theorem pw_cell_below {w w1 : World} (h : Below w.heap.size w w1) {a : Addr} {v : Value} (hc : w.cell? a = some v) : w1.cell? a = some v := (h.cell (World.block_lt_of_cell? w a hc)).trans hc

theorem add_plain (g j : Nat) : (⟨g, 0, none⟩ : Addr).add j = ⟨g, j, none⟩ := by unfold Addr.add; split <;> simp_all

def ReadsInt (w : World) (k : IntKind) (A : Option Addr) (n : Nat) (xs : List Int) : Prop :=
  xs.length = n ∧ n ≤ 9223372036854775807 ∧ (0 < n → ∃ ad, A = some ad ∧ ∀ j, j < n → w.cell? (ad.add j) = some (.int k (xs.getD j 0)))
theorem ReadsInt.at_ {w : World} {k : IntKind} {A : Option Addr} {n : Nat} {xs : List Int} (h : ReadsInt w k A n xs) (i : Int) (h0 : 0 ≤ i) (h1 : i < n) : ∃ ad, A = some ad ∧ w.cell? (ad.add i.toNat) = some (.int k (rd xs i)) := by
  obtain ⟨ad, e, hc⟩ := h.2.2 (by omega)
  exact ⟨ad, e, hc _ (by omega)⟩
theorem ReadsInt.below {w w1 : World} {k : IntKind} {A : Option Addr} {n : Nat} {xs : List Int} (h : ReadsInt w k A n xs) (hb : Below w.heap.size w w1) : ReadsInt w1 k A n xs :=
  ⟨h.1, h.2.1, fun hn => by
    obtain ⟨ad, e, hc⟩ := h.2.2 hn
    exact ⟨ad, e, fun j hj => pw_cell_below hb (hc j hj)⟩⟩

theorem own_nil (W : World) (base : Nat) (e : TypeId) (size : Nat) : W.ownsRow base e size (.slice none 0 0) 0 [] := ⟨by simp, .inl ⟨rfl, rfl⟩⟩
theorem own_base {w : World} {base : Nat} {e : TypeId} {size n : Nat} {v : Value} {xs : List Value} (h : w.ownsRow base e size v n xs) (k : Nat) (hk : v.ownBlock = some k) : base ≤ k := by
  rcases h.2 with ⟨rfl, _⟩ | ⟨g, cap, cur, rfl, hb, _⟩
  · simp [Value.ownBlock] at hk
  · have : g = k := by simpa [Value.ownBlock] using hk
    omega
theorem own_lt {w : World} {base : Nat} {e : TypeId} {size n : Nat} {v : Value} {xs : List Value} (h : w.ownsRow base e size v n xs) (k : Nat) (hk : v.ownBlock = some k) : k < w.heap.size := by
  rcases h.2 with ⟨rfl, _⟩ | ⟨g, cap, cur, rfl, hb, hh, _⟩
  · simp [Value.ownBlock] at hk
  · have : g = k := by simpa [Value.ownBlock] using hk
    subst this
    exact (Array.getElem?_eq_some_iff.1 hh).1
theorem pw_own_below {w w1 : World} {base : Nat} {e : TypeId} {size n : Nat} {v : Value} {xs : List Value} (h : w.ownsRow base e size v n xs) (hb : Below w.heap.size w w1) : w1.ownsRow base e size v n xs :=
  h.kept (grown_of_below hb none) (by cases v.ownBlock <;> simp)
/-- What is written is another row: this one lives on. -/
theorem own_other {w w1 : World} {base : Nat} {e : TypeId} {size n : Nat} {v : Value} {xs : List Value} (h : w.ownsRow base e size v n xs) {row : Option Nat} (hg : w.grownBy w1 row) (hne : v.ownBlock = none ∨ v.ownBlock ≠ row) : w1.ownsRow base e size v n xs := h.kept hg hne
/-- The shape of whatever is owned. -/
theorem own_slice {w : World} {base n : Nat} {e : TypeId} {size : Nat} {v : Value} {xs : List Value} (h : w.ownsRow base e size v n xs) : ∃ A c, v = .slice A n c := by
  rcases h.2 with ⟨rfl, rfl⟩ | ⟨g, cap, cur, rfl, _⟩
  · exact ⟨none, 0, rfl⟩
  · exact ⟨_, cap, rfl⟩
section
variable {P : Program} {ops : Array Oper} {rest : List Oper} {o : Oper} {a : Act} {Q : Exit → Act → World → Prop}

end

section
variable {P : Program}
end
section
variable {P : Program} {ops : Array Oper} {rest : List Oper} {o : Oper} {a : Act} {Q : Exit → Act → World → Prop}
end

def bytesOf (s : ByteArray) : List Int := s.data.toList.map fun b => (b.toNat : Int)
theorem data_length (s : ByteArray) : s.data.toList.length = s.size := by rw [Array.length_toList]; rfl
theorem bytesOf_length (s : ByteArray) : (bytesOf s).length = s.size := by rw [bytesOf, List.length_map, data_length]
theorem rd_bytesOf (s : ByteArray) (i : Int) : rd (bytesOf s) i = bt s i := by
  unfold rd bt bytesOf
  split
  · rename_i h
    have h' : i.toNat < s.data.toList.length := by rw [data_length]; exact h
    simp [List.getD_eq_getElem?_getD, List.getElem?_eq_getElem h']
    rfl
  · rename_i h
    have h' : s.data.toList.length ≤ i.toNat := by rw [data_length]; omega
    simp [List.getD_eq_getElem?_getD, List.getElem?_eq_none h']
/-- Laid ahead: 'have kb := fun W => print_bytes (P := A.prog) SRC DST E A.underlyingSRC A.underlyingDST A.underlyingE s W'. -/
theorem print_bytes {P : Program} (src dst e : TypeId) {u : TypeDesc} (hs : P.underlying src = some u) (hd : P.underlying dst = some (.slice e)) (he : P.underlying e = some (.int .u8)) (s : ByteArray) (W : World) :
    (convert src dst (.string s)).run P W = .ok (.slice (some ⟨W.heap.size, 0, none⟩) s.size (grownCap W s.size 0 e)) (Lib.bytesWorld W e s) := Lib.run_convert_string_bytes W src dst e s hs hd he
theorem bytes_reads (W : World) (e : TypeId) (s : ByteArray) (hs : s.size ≤ 9223372036854775807) : ReadsInt (Lib.bytesWorld W e s) .u8 (some ⟨W.heap.size, 0, none⟩) s.size (bytesOf s) := by
  refine ⟨bytesOf_length s, hs, fun _ => ⟨_, rfl, fun j hj => ?_⟩⟩
  rw [add_plain, Lib.bytesWorld_cell W e s j hj]
  have h' : j < s.data.toList.length := by rw [data_length]; exact hj
  simp [bytesOf, List.getD_eq_getElem?_getD, List.getElem?_eq_getElem h']
theorem bytes_below {B : Nat} {w W : World} (h : Below B w W) (hB : B ≤ W.heap.size) (e : TypeId) (s : ByteArray) : Below B w (Lib.bytesWorld W e s) :=
  h.trans ⟨rfl, rfl, rfl, by rw [Lib.bytesWorld_size]; omega, fun i hi => Lib.bytesWorld_at_old W e s i (by omega)⟩
theorem ReadsInt.drop_ {w : World} {k : IntKind} {A : Option Addr} {n c : Nat} {xs : List Int} (h : ReadsInt w k A n xs) (i : Nat) (hi : i ≤ n) (hc : n ≤ c) : ReadsInt w k (if c = i then A else A.map (·.add i)) (n - i) (xs.drop i) := by
  refine ⟨by rw [List.length_drop, h.1], by have := h.2.1; omega, fun hp => ?_⟩
  obtain ⟨ad, rfl, hcell⟩ := h.2.2 (by omega)
  rw [if_neg (by omega)]
  refine ⟨ad.add i, rfl, fun j hj => ?_⟩
  have ha : (ad.add i).add j = ad.add (i + j) := by
    unfold Addr.add
    by_cases h1 : i = 0 <;> by_cases h2 : j = 0 <;> simp [h1, h2, Nat.add_assoc]
  rw [ha, hcell (i + j) (by omega)]
  simp [List.getD_eq_getElem?_getD, List.getElem?_drop]
/-- 'xs[m:]' WITHOUT A CASE on the capacity: 'obtain ⟨A1, hcut, hA1⟩ := print_cut ..' ahead of the walk; A1 is a letter. -/
theorem print_cut {P : Program} (t e : TypeId) (kl : IntKind) {i : TypeInfo} (ht : P.underlying t = some (.slice e)) (hi : P.info? e = some i) (hsz : i.size = 1) (A : Option Addr) (n c m : Nat) (hm : m ≤ n) :
    ∃ A' : Option Addr, (∀ W : World, (Instr.slice t (.slice A n c) (some (.int kl (m : Int))) none none).run P W = .ok (.slice A' (n - m) (c - m)) W) ∧
      ∀ (w : World) (k : IntKind) (xs : List Int), n ≤ c → ReadsInt w k A n xs → ReadsInt w k A' (n - m) (xs.drop m) := by
  refine ⟨if c = m then A else A.map (·.add m), fun W => ?_, fun w k xs hc h => h.drop_ m hm hc⟩
  have hel : P.elem t = e := by simp [Program.elem, ht]
  have hu : P.underlying t = some (.slice (P.elem t)) := by rw [hel]; exact ht
  rw [run_slice_l W t A n c hu kl (m : Int) (Int.natCast_nonneg _) (by omega), hel]
  simp [sizeOf, typeInfo, hi, hsz, sliced, Result.andThen]
/-- Where the first answers, the second answers the same. -/
def LeO {α : Type} (a b : Option α) : Prop := ∀ r, a = some r → b = some r
theorem LeO.refl {α : Type} (a : Option α) : LeO a a := fun _ h => h
theorem LeO.none {α : Type} (b : Option α) : LeO Option.none b := fun _ h => by cases h
theorem LeO.trans {α : Type} {a b c : Option α} (h : LeO a b) (k : LeO b c) : LeO a c := fun r hr => k r (h r hr)
theorem LeO.bind {α β : Type} {a a' : Option α} {f f' : α → Option β} (h : LeO a a') (k : ∀ x, LeO (f x) (f' x)) : LeO (a.bind f) (a'.bind f') := by
  intro r hr
  obtain ⟨x, hx, hf⟩ := Option.bind_eq_some_iff.1 hr
  exact Option.bind_eq_some_iff.2 ⟨x, h x hx, k x r hf⟩
theorem LeO.map {α β : Type} {a a' : Option α} (f : α → β) (h : LeO a a') : LeO (a.map f) (a'.map f) := by
  intro r hr
  obtain ⟨x, hx, hf⟩ := Option.map_eq_some_iff.1 hr
  exact Option.map_eq_some_iff.2 ⟨x, h x hx, hf⟩
theorem more_rounds {α : Type} {g : Nat → Option α} (h : ∀ k, LeO (g k) (g (k + 1))) (k : Nat) : ∀ j, LeO (g k) (g (k + j))
  | 0 => LeO.refl _
  | j + 1 => (more_rounds h k j).trans (h (k + j))
theorem at_rounds {α : Type} {g : Nat → Option α} (h : ∀ k, LeO (g k) (g (k + 1))) {k k' : Nat} (hk : k ≤ k') {r : α} (hr : g k = some r) : g k' = some r := by
  have := more_rounds h k (k' - k) r hr
  rwa [Nat.add_sub_cancel' hk] at this
def Reps {α : Type} (R : α → List Value → Prop) (size : Nat) (ps : List α) (cs : List Value) : Prop :=
  cs.length = ps.length * size ∧ ∀ j p, ps[j]? = some p → R p ((cs.drop (j * size)).take size)
theorem Reps.none {α : Type} (R : α → List Value → Prop) (size : Nat) : Reps R size [] [] := ⟨by simp, fun j p h => by simp at h⟩
theorem Reps.snoc {α : Type} {R : α → List Value → Prop} {size : Nat} {ps : List α} {cs c : List Value} {p : α} (h : Reps R size ps cs) (hp : R p c) (hc : c.length = size) : Reps R size (ps ++ [p]) (cs ++ c) := by
  refine ⟨by rw [List.length_append, h.1, hc, List.length_append, List.length_singleton, Nat.add_mul, Nat.one_mul], fun j q hq => ?_⟩
  rcases Nat.lt_or_ge j ps.length with hj | hj
  · rw [List.getElem?_append_left hj] at hq
    have h1 : j * size + size ≤ cs.length := by rw [h.1, ← Nat.succ_mul]; exact Nat.mul_le_mul_right _ hj
    have h2 := h.2 j q hq
    rw [List.drop_append_of_le_length (by omega), List.take_append_of_le_length (by rw [List.length_drop]; omega)]
    exact h2
  · have hj' : j = ps.length := by
      have := (List.getElem?_eq_some_iff.1 hq).1
      rw [List.length_append, List.length_singleton] at this
      omega
    subst hj'
    have hq' : p = q := by simpa using hq
    subst hq'
    rw [← h.1, List.drop_left, ← hc, List.take_length]
    exact hp
theorem Reps.imp_ {α : Type} {R R' : α → List Value → Prop} {size : Nat} {ps : List α} {cs : List Value} (h : Reps R size ps cs) (hR : ∀ p c, R p c → R' p c) : Reps R' size ps cs := ⟨h.1, fun j p hj => hR _ _ (h.2 j p hj)⟩

def ReadsRow {α : Type} (R : α → List Value → Prop) (size : Nat) (w : World) (A : Option Addr) (n : Nat) (ps : List α) : Prop :=
  ps.length = n ∧ n ≤ 9223372036854775807 ∧ (0 < n → ∃ ad, A = some ad ∧ ∀ j p, ps[j]? = some p → ∃ c, c.length = size ∧ R p c ∧ ∀ i u, c[i]? = some u → w.cell? (ad.add (j * size + i)) = some u)
theorem ReadsRow.get_ {α : Type} {R : α → List Value → Prop} {size : Nat} {w : World} {A : Option Addr} {n : Nat} {ps : List α} (h : ReadsRow R size w A n ps) (d : α) (i : Int) (h0 : 0 ≤ i) (h1 : i < n) :
    ∃ ad c, A = some ad ∧ c.length = size ∧ R (ps.getD i.toNat d) c ∧ ∀ j u, c[j]? = some u → w.cell? (ad.add (i.toNat * size + j)) = some u := by
  obtain ⟨ad, e, hc⟩ := h.2.2 (by omega)
  have hl : i.toNat < ps.length := by have := h.1; omega
  obtain ⟨c, hs, hr, hcell⟩ := hc i.toNat _ (List.getElem?_eq_getElem hl)
  refine ⟨ad, c, e, hs, ?_, hcell⟩
  rw [List.getD_eq_getElem?_getD, List.getElem?_eq_getElem hl]
  exact hr
theorem ReadsRow.imp_ {α : Type} {R R' : α → List Value → Prop} {size : Nat} {w w1 : World} {A : Option Addr} {n : Nat} {ps : List α} (h : ReadsRow R size w A n ps) (hb : Below w.heap.size w w1) (hR : ∀ p c, R p c → R' p c) : ReadsRow R' size w1 A n ps :=
  ⟨h.1, h.2.1, fun hn => by
    obtain ⟨ad, e, hc⟩ := h.2.2 hn
    refine ⟨ad, e, fun j p hj => ?_⟩
    obtain ⟨c, hs, hr, hcell⟩ := hc j p hj
    exact ⟨c, hs, hR _ _ hr, fun i u hu => pw_cell_below hb (hcell i u hu)⟩⟩
theorem own_reads_row {α : Type} {R : α → List Value → Prop} {w : World} {base n size : Nat} {e : TypeId} {v : Value} {ps : List α} {cs : List Value} (h : w.ownsRow base e size v n cs) (hR : Reps R size ps cs) (hn : ps.length = n) :
    ∃ A c, v = .slice A n c ∧ ReadsRow R size w A n ps := by
  rcases Nat.eq_zero_or_pos n with h0 | h0
  · rcases h.2 with ⟨rfl, rfl⟩ | ⟨g, cap, cur, rfl, _⟩
    · exact ⟨none, 0, rfl, hn, by omega, fun hp => absurd hp (by omega)⟩
    · exact ⟨_, cap, rfl, hn, by omega, fun hp => absurd hp (by omega)⟩
  · obtain ⟨g, cap, rfl, _, _⟩ := h.form h0
    have hm : n ≤ 9223372036854775807 := by
      rcases h.2 with ⟨_, h1⟩ | ⟨g', cap', cur, he, _, _, h1, h2, _⟩
      · omega
      · simp only [maxLen] at h2
        omega
    refine ⟨_, cap, rfl, hn, hm, fun _ => ⟨_, rfl, fun j p hj => ⟨(cs.drop (j * size)).take size, ?_, hR.2 j p hj, fun i u hu => ?_⟩⟩⟩
    · have hjl := (List.getElem?_eq_some_iff.1 hj).1
      have h1 : j * size + size ≤ cs.length := by rw [hR.1, ← Nat.succ_mul]; exact Nat.mul_le_mul_right _ hjl
      rw [List.length_take, List.length_drop]
      omega
    · refine h.cells (g := g) rfl _ u ?_
      rw [List.getElem?_take] at hu
      split at hu
      · rw [List.getElem?_drop] at hu
        exact hu
      · cases hu
/-- A field's address as_ the walk spells it. -/
theorem add_field (ad : Addr) (m j : Nat) (hj : 0 < j) : ad.add (m + j) = ⟨(ad.add m).block, (ad.add m).off + j, none⟩ := by
  unfold Addr.add
  by_cases hm : m = 0
  · subst hm
    simp [Nat.ne_of_gt hj]
  · simp [hm, Nat.add_assoc]

section
variable {P : Program} {ops : Array Oper} {rest : List Oper} {o : Oper} {a : Act} {Q : Exit → Act → World → Prop}
/-- append(v, x), x of several cells; behind 'at_builtin'; the goal's world is 'W.alloc' of the variadic's box. -/
theorem print_append_cells {w0 W : World} (base : Nat) (hgd : o.guard = none) (s x : Operand) (t e : TypeId) (z : Value) (size bytes : Nat)
    (ho : o.op = .call { callee := .builtin .append, args := #[s, x], argTypes := #[t, t] })
    (ht : P.underlying t = some (.slice e)) (hinfo : (P.info? e).map (fun i => (i.zero, i.size, i.bytes)) = some (some z, size, bytes)) (hz : z.cells.size = size) (hs0 : 0 < size) (hb0 : 0 < bytes)
    (v : Value) (n : Nat) (xs ys : List Value) (hs : a.eval s = v) (hx : a.eval x = .slice (some ⟨W.heap.size, 0, none⟩) 1 1) (hys : ys.length = size) (h1 : ∀ u ∈ ys, u.oneCell' = true)
    (HO : W.ownsRow base e size v n xs) (HB : Below base w0 W) (hbase : base ≤ W.heap.size) (hl : (n + 1) * bytes ≤ 140737488355328)
    (h : ∀ v1 w1, w1.ownsRow base e size v1 (n + 1) (xs ++ ys) → Below base w0 w1 → W.grownBy w1 v.ownBlock → (v1.ownBlock = v.ownBlock ∨ ∃ b, v1.ownBlock = some b ∧ W.heap.size ≤ b) → wpList P ops Q rest (a.put o.dst v1) w1) :
    wpList P ops Q (o :: rest) a (W.alloc (.cells ys.toArray e)) := by
  obtain ⟨i0, hi, hzz⟩ := Option.map_eq_some_iff.1 hinfo
  simp only [Prod.mk.injEq] at hzz
  obtain ⟨hz0, hz1, hz2⟩ := hzz
  have hlen : n + 1 ≤ 140737488355328 := Nat.le_trans (Nat.le_mul_of_pos_right _ hb0) hl
  refine wpList_append_own_at (W.alloc (.cells ys.toArray e)) hgd s x t ho base e i0 z size bytes ht hi hz0 hz1 hz2 hz hs0 v n xs hs (HO.alloc _) ⟨W.heap.size, 0, none⟩ 1 1 ys hx (by rw [hys]; simp)
    (by simpa using World.news_of_block (cs := ys.toArray) (t := e) (fr := (0, 0)) (heap_alloc_new W (.cells ys.toArray e))) h1 (by simp only [maxLen]; omega) hl (by simp; omega) ?_
  intro v1 w1 hown hg _ hat
  refine h v1 w1 hown ((HB.alloc hbase _).grown hg (by simp; omega) (own_base HO)) (World.grownBy.trans (World.grownBy_alloc W _ _) hg) ?_
  rcases hat with hat | hat
  · exact .inl hat
  · exact .inr ⟨_, hat, by simp⟩
end

theorem own_ne {w : World} {base : Nat} {e t : TypeId} {size n g : Nat} {v : Value} {xs : List Value} {cs : Array Value} (h : w.ownsRow base e size v n xs) (hg : w.heap[g]? = some (.cells cs t (0, 0))) (hne : e ≠ t) : some g ≠ v.ownBlock := by
  rcases h.2 with ⟨rfl, _⟩ | ⟨g', cap, cur, rfl, _, hh, _⟩
  · simp [Value.ownBlock]
  · intro he
    have : g = g' := by simpa [Value.ownBlock] using he
    subst this
    rw [hg] at hh
    injection hh with hh
    injection hh with _ ht
    exact hne ht.symm
theorem own_setCell {w : World} {base : Nat} {e : TypeId} {size n : Nat} {v : Value} {xs : List Value} (h : w.ownsRow base e size v n xs) {p : Addr} (hne : some p.block ≠ v.ownBlock) (u : Value) : (w.setCell p u).ownsRow base e size v n xs := by
  obtain ⟨h1, h2⟩ := h
  refine ⟨h1, ?_⟩
  rcases h2 with h2 | ⟨g, cap, cur, rfl, hg, hh, r⟩
  · exact .inl h2
  · exact .inr ⟨g, cap, cur, rfl, hg, by rw [Below.heap_setCell _ _ _ _ (fun e => hne (by rw [e]; rfl))]; exact hh, r⟩
theorem blk_set {w : World} {g : Nat} {t : TypeId} {cs : Array Value} (h : w.heap[g]? = some (.cells cs t (0, 0))) (i : Nat) (u : Value) : (w.setCell ⟨g, i, none⟩ u).heap[g]? = some (.cells (cs.setIfInBounds i u) t (0, 0)) := by
  simp [World.setCell, Array.getElem?_modify, h]
theorem blk_lt {w : World} {g : Nat} {o : Obj} (h : w.heap[g]? = some o) : g < w.heap.size := (Array.getElem?_eq_some_iff.1 h).1
theorem blk_cell {w : World} {g : Nat} {t : TypeId} {cs : Array Value} (h : w.heap[g]? = some (.cells cs t (0, 0))) (i : Nat) : w.cell? ⟨g, i, none⟩ = cs[i]? := cell_of_row w g i cs t (0, 0) h
theorem blk_frozen {w : World} {g : Nat} {t : TypeId} {cs : Array Value} (h : w.heap[g]? = some (.cells cs t (0, 0))) (i : Nat) : w.frozen? ⟨g, i, none⟩ = false := by simp [World.frozen?, h]
theorem blk_grown {w w1 : World} {g : Nat} {o : Obj} {row : Option Nat} (h : w.heap[g]? = some o) (hg : w.grownBy w1 row) (hne : some g ≠ row) : w1.heap[g]? = some o := (hg.block g (blk_lt h) hne).trans h
theorem blk_ne {w : World} {g g' : Nat} {t t' : TypeId} {cs cs' : Array Value} (h : w.heap[g]? = some (.cells cs t (0, 0))) (h' : w.heap[g']? = some (.cells cs' t' (0, 0))) (hne : t ≠ t') : g ≠ g' := by
  rintro rfl
  rw [h] at h'
  injection h' with h'
  injection h' with _ ht
  exact hne ht
def KeepBut (w w' : World) (g : Nat) (row : Option Nat) : Prop := w.heap.size ≤ w'.heap.size ∧ ∀ i, i < w.heap.size → i ≠ g → some i ≠ row → w'.heap[i]? = w.heap[i]?
theorem KeepBut.refl (w : World) (g : Nat) (row : Option Nat) : KeepBut w w g row := ⟨Nat.le_refl _, fun _ _ _ _ => rfl⟩
theorem KeepBut.of_grown {w w1 : World} {row : Option Nat} (h : w.grownBy w1 row) (g : Nat) : KeepBut w w1 g row := ⟨h.size, fun i hi _ hr => h.block i hi hr⟩
theorem KeepBut.of_below {w w1 : World} (h : Below w.heap.size w w1) (g : Nat) (row : Option Nat) : KeepBut w w1 g row := ⟨h.size, fun i hi _ _ => h.block i hi⟩
theorem KeepBut.set_ {w w1 : World} {g : Nat} {row : Option Nat} (h : KeepBut w w1 g row) (j : Nat) (u : Value) : KeepBut w (w1.setCell ⟨g, j, none⟩ u) g row :=
  ⟨by simpa [World.setCell] using h.1, fun i hi hg hr => (Below.heap_setCell w1 ⟨g, j, none⟩ u i hg).trans (h.2 i hi hg hr)⟩
theorem KeepBut.trans {w w1 w2 : World} {g : Nat} {row row1 : Option Nat} (h : KeepBut w w1 g row) (k : KeepBut w1 w2 g row1) (hr : row1 = row ∨ ∃ b, row1 = some b ∧ w.heap.size ≤ b) : KeepBut w w2 g row :=
  ⟨Nat.le_trans h.1 k.1, fun i hi hg hn => by
    refine (k.2 i (Nat.lt_of_lt_of_le hi h.1) hg ?_).trans (h.2 i hi hg hn)
    rcases hr with rfl | ⟨b, rfl, hb⟩
    · exact hn
    · intro e
      injection e with e
      omega⟩
/-- Another block, another row: they live on. -/
theorem KeepBut.blk {w w1 : World} {g g' : Nat} {row : Option Nat} {o : Obj} (h : KeepBut w w1 g row) (hb : w.heap[g']? = some o) (hg : g' ≠ g) (hr : some g' ≠ row) : w1.heap[g']? = some o := (h.2 g' (blk_lt hb) hg hr).trans hb
theorem KeepBut.own {w w1 : World} {g : Nat} {row : Option Nat} {base : Nat} {e : TypeId} {size n : Nat} {v : Value} {xs : List Value} (h : KeepBut w w1 g row) (ho : w.ownsRow base e size v n xs) (hg : v.ownBlock ≠ some g) (hr : v.ownBlock = none ∨ v.ownBlock ≠ row) : w1.ownsRow base e size v n xs := by
  obtain ⟨h1, h2⟩ := ho
  refine ⟨h1, ?_⟩
  rcases h2 with h2 | ⟨b, cap, cur, rfl, hb, hh, r⟩
  · exact .inl h2
  · refine .inr ⟨b, cap, cur, rfl, hb, h.blk hh ?_ ?_, r⟩
    · intro e
      exact hg (by rw [← e]; rfl)
    · rcases hr with hr | hr
      · simp [Value.ownBlock] at hr
      · exact hr
def Ev {α : Type} (g : Nat → Option α) (r : α) : Prop := ∃ K, ∀ k, K ≤ k → g k = some r
theorem Ev.of {α : Type} {g : Nat → Option α} {r : α} (hg : ∀ k, LeO (g k) (g (k + 1))) {k : Nat} (h : g k = some r) : Ev g r := ⟨k, fun _ hk => at_rounds hg hk h⟩
theorem Ev.now {α : Type} (r : α) : Ev (fun _ => some r) r := ⟨0, fun _ _ => rfl⟩
theorem Ev.bind {α β : Type} {g : Nat → Option α} {f : Nat → α → Option β} {a : α} {r : β} (h : Ev g a) (k : Ev (fun n => f n a) r) : Ev (fun n => (g n).bind (f n)) r := by
  obtain ⟨K, h⟩ := h
  obtain ⟨K', k⟩ := k
  refine ⟨max K K', fun n hn => ?_⟩
  have h1 := h n (by omega)
  have h2 := k n (by omega)
  simp only [h1, Option.bind_some]
  exact h2
/-- One round of a loop. -/
theorem Ev.step {α : Type} {g f : Nat → Option α} {r : α} (h : ∀ k, g (k + 1) = f k) (k : Ev f r) : Ev g r := by
  obtain ⟨K, k⟩ := k
  refine ⟨K + 1, fun n hn => ?_⟩
  obtain ⟨m, rfl⟩ : ∃ m, n = m + 1 := ⟨n - 1, by omega⟩
  rw [h]
  exact k m (by omega)
section
variable {P : Program} {ops : Array Oper} {o : Oper} {a : Act} {Q : Exit → Act → World → Prop} {K : Act → World → Prop}
end
theorem own_weaken {w : World} {base base' : Nat} {e : TypeId} {size n : Nat} {v : Value} {xs : List Value} (h : w.ownsRow base e size v n xs) (hb : base' ≤ base) : w.ownsRow base' e size v n xs := by
  obtain ⟨h1, h2⟩ := h
  refine ⟨h1, ?_⟩
  rcases h2 with h2 | ⟨g, cap, cur, rfl, hg, r⟩
  · exact .inl h2
  · exact .inr ⟨g, cap, cur, rfl, Nat.le_trans hb hg, r⟩
section
variable {α : Type} {enc : α → Value} {d : α}
def encs (enc : α → Value) (xs : List α) : List Value := xs.map enc
def rdOf (d : α) (xs : List α) (i : Int) : α := xs.getD i.toNat d
theorem encs_length (xs : List α) : (encs enc xs).length = xs.length := by simp [encs]
def ReadsOf (enc : α → Value) (d : α) (w : World) (A : Option Addr) (n : Nat) (xs : List α) : Prop :=
  xs.length = n ∧ n ≤ 9223372036854775807 ∧ (0 < n → ∃ ad, A = some ad ∧ ∀ j, j < n → w.cell? (ad.add j) = some (enc (xs.getD j d)))
theorem ReadsOf.at_ {w : World} {A : Option Addr} {n : Nat} {xs : List α} (h : ReadsOf enc d w A n xs) (i : Int) (h0 : 0 ≤ i) (h1 : i < n) : ∃ ad, A = some ad ∧ w.cell? (ad.add i.toNat) = some (enc (rdOf d xs i)) := by
  obtain ⟨ad, e, hc⟩ := h.2.2 (by omega)
  exact ⟨ad, e, hc _ (by omega)⟩
theorem ReadsOf.below {w w1 : World} {A : Option Addr} {n : Nat} {xs : List α} (h : ReadsOf enc d w A n xs) (hb : Below w.heap.size w w1) : ReadsOf enc d w1 A n xs :=
  ⟨h.1, h.2.1, fun hn => by
    obtain ⟨ad, e, hc⟩ := h.2.2 hn
    exact ⟨ad, e, fun j hj => pw_cell_below hb (hc j hj)⟩⟩
theorem ReadsOf.drop_ {w : World} {A : Option Addr} {n c : Nat} {xs : List α} (h : ReadsOf enc d w A n xs) (i : Nat) (hi : i ≤ n) (hc : n ≤ c) : ReadsOf enc d w (if c = i then A else A.map (·.add i)) (n - i) (xs.drop i) := by
  refine ⟨by rw [List.length_drop, h.1], by have := h.2.1; omega, fun hp => ?_⟩
  obtain ⟨ad, rfl, hcell⟩ := h.2.2 (by omega)
  rw [if_neg (by omega)]
  refine ⟨ad.add i, rfl, fun j hj => ?_⟩
  have ha : (ad.add i).add j = ad.add (i + j) := by
    unfold Addr.add
    by_cases h1 : i = 0 <;> by_cases h2 : j = 0 <;> simp [h1, h2, Nat.add_assoc]
  rw [ha, hcell (i + j) (by omega)]
  simp [List.getD_eq_getElem?_getD, List.getElem?_drop]
/-- 'xs[m:]' without a case on the capacity (print_cut for any enc). -/
theorem print_cut_of {P : Program} (enc : α → Value) (d : α) (t e : TypeId) (kl : IntKind) {i : TypeInfo} (ht : P.underlying t = some (.slice e)) (hi : P.info? e = some i) (hsz : i.size = 1) (A : Option Addr) (n c m : Nat) (hm : m ≤ n) :
    ∃ A' : Option Addr, (∀ W : World, (Instr.slice t (.slice A n c) (some (.int kl (m : Int))) none none).run P W = .ok (.slice A' (n - m) (c - m)) W) ∧
      ∀ (w : World) (xs : List α), n ≤ c → ReadsOf enc d w A n xs → ReadsOf enc d w A' (n - m) (xs.drop m) := by
  refine ⟨if c = m then A else A.map (·.add m), fun W => ?_, fun w xs hc h => h.drop_ m hm hc⟩
  have hel : P.elem t = e := by simp [Program.elem, ht]
  have hu : P.underlying t = some (.slice (P.elem t)) := by rw [hel]; exact ht
  rw [run_slice_l W t A n c hu kl (m : Int) (Int.natCast_nonneg _) (by omega), hel]
  simp [sizeOf, typeInfo, hi, hsz, sliced, Result.andThen]
end
section
variable {α : Type} {P : Program} {ops : Array Oper} {rest : List Oper} {o : Oper} {a : Act} {Q : Exit → Act → World → Prop}
end

theorem blk_alloc {w : World} {g : Nat} {o : Obj} (h : w.heap[g]? = some o) (o' : Obj) : (w.alloc o').heap[g]? = some o := (Below.heap_alloc w o' g (blk_lt h)).trans h
theorem blk_drew {w : World} {g : Nat} {o : Obj} (h : w.heap[g]? = some o) : w.drew.heap[g]? = some o := h
theorem blk_below {w w1 : World} {g : Nat} {o : Obj} (h : w.heap[g]? = some o) (hb : Below w.heap.size w w1) : w1.heap[g]? = some o := (hb.block g (blk_lt h)).trans h
section
variable {P : Program}
theorem results_ct {fn : Func} {p u : Tmp} {ty : TypeId} (h : fn.results = #[.cell p ty, .tmp u]) (tmps : Array Value) (w : World) (g : Nat) (t : TypeId) (cs : Array Value) (fr : Nat × Nat) (d : TypeDesc)
    (hp : tmps.getD p undef = .pointer (some ⟨g, 0, none⟩)) (hg : w.heap[g]? = some (.cells cs t fr))
    (hu : P.underlying ty = some d) (hd : (match d with | .struct _ | .array _ _ => true | _ => false) = true) (hi : (P.info? ty).map (·.size) = some cs.size) :
    (results fn tmps).run P w = .ok (.tuple #[.agg cs, tmps.getD u undef]) w := by
  have hp' : tmps[p]?.getD undef = .pointer (some ⟨g, 0, none⟩) := by simpa using hp
  simp [results, h, hp', asAddr, run_loadVar_row w g t ty cs fr d hg hu hd hi]
end
theorem own_le {w : World} {base n m c size : Nat} {e : TypeId} {A : Option Addr} {xs : List Value} (h : w.ownsRow base e size (.slice A m c) n xs) : m ≤ c := by
  rcases h.2 with ⟨he, _⟩ | ⟨g, cap, cur, he, _, _, hnc, _⟩
  · injection he with _ h2 h3
    omega
  · injection he with _ h2 h3
    omega
def OwnRow {α : Type} (R : α → List Value → Prop) (e : TypeId) (size : Nat) (w : World) (base : Nat) (v : Value) (ps : List α) : Prop :=
  ∃ inner, w.ownsRow base e size v ps.length inner ∧ Reps R size ps inner
section
variable {α : Type} {R R' : α → List Value → Prop} {e : TypeId} {size : Nat} {w w1 : World} {base : Nat} {v : Value} {ps : List α}
theorem OwnRow.none_ (R : α → List Value → Prop) (e : TypeId) (size : Nat) (w : World) (base : Nat) : OwnRow R e size w base (.slice none 0 0) [] := ⟨[], own_nil _ _ _ _, Reps.none _ _⟩
theorem OwnRow.imp_ (h : OwnRow R e size w base v ps) (hR : ∀ p c, R p c → R' p c) : OwnRow R' e size w base v ps := by
  obtain ⟨inner, ho, hr⟩ := h
  exact ⟨inner, ho, hr.imp_ hR⟩
theorem OwnRow.below (h : OwnRow R e size w base v ps) (hb : Below w.heap.size w w1) : OwnRow R e size w1 base v ps := by
  obtain ⟨inner, ho, hr⟩ := h
  exact ⟨inner, pw_own_below ho hb, hr⟩
theorem OwnRow.set_ (h : OwnRow R e size w base v ps) {g : Nat} {t : TypeId} {cells : Array Value} (hb : w.heap[g]? = some (.cells cells t (0, 0))) (ht : e ≠ t) (j : Nat) (u : Value) : OwnRow R e size (w.setCell ⟨g, j, none⟩ u) base v ps := by
  obtain ⟨inner, ho, hr⟩ := h
  exact ⟨inner, own_setCell ho (own_ne ho hb ht) u, hr⟩
theorem OwnRow.keep (h : OwnRow R e size w base v ps) {g : Nat} {t : TypeId} {cells : Array Value} (hb : w.heap[g]? = some (.cells cells t (0, 0))) (ht : e ≠ t) (hk : KeepBut w w1 g none) : OwnRow R e size w1 base v ps := by
  obtain ⟨inner, ho, hr⟩ := h
  exact ⟨inner, hk.own ho (Ne.symm (own_ne ho hb ht)) (by cases v.ownBlock <;> simp), hr⟩
theorem OwnRow.reads (h : OwnRow R e size w base v ps) : ∃ A c, v = .slice A ps.length c ∧ ps.length ≤ c ∧ ReadsRow R size w A ps.length ps := by
  obtain ⟨inner, ho, hr⟩ := h
  obtain ⟨A, c, rfl, hrow⟩ := own_reads_row ho hr rfl
  exact ⟨A, c, rfl, own_le ho, hrow⟩
theorem OwnRow.ne_block (h : OwnRow R e size w base v ps) {g : Nat} {t : TypeId} {cells : Array Value} (hb : w.heap[g]? = some (.cells cells t (0, 0))) (ht : e ≠ t) : some g ≠ v.ownBlock := by
  obtain ⟨inner, ho, hr⟩ := h
  exact own_ne ho hb ht
end
section
variable {P : Program} {ops : Array Oper} {rest : List Oper} {o : Oper} {a : Act} {Q : Exit → Act → World → Prop} {α : Type} {R : α → List Value → Prop}
end
section
variable {P : Program} {ops : Array Oper} {o : Oper} {a : Act} {Q : Exit → Act → World → Prop} {K : Act → World → Prop} {α : Type} {R : α → List Value → Prop}
end
section
variable {α : Type} {P : Program}
end

section
variable {P : Program} {ops : Array Oper} {rest : List Oper} {o : Oper} {a : Act} {Q : Exit → Act → World → Prop}
end
/-- ok: which blocks the rows inside may be ('not the row that is being written'). -/
structure Kd (α : Type) where
  sz : Nat
  E : List Nat
  K : World → α → List Value → Prop
  M : World → Nat → (Nat → Prop) → α → List Value → Prop
  K_len : ∀ {w x cs}, K w x cs → cs.length = sz
  K_one : ∀ {w x cs}, K w x cs → ∀ u ∈ cs, u.oneCell' = true
  K_below : ∀ {w w1 : World} {x cs}, Below w.heap.size w w1 → K w x cs → K w1 x cs
  K_of_M : ∀ {w base ok x cs}, M w base ok x cs → K w x cs
  M_mono : ∀ {w base ok ok' x cs}, (∀ k, ok k → ok' k) → M w base ok x cs → M w base ok' x cs
  M_bound : ∀ {w : World} {base ok x cs}, M w base ok x cs → M w base (fun k => ok k ∧ base ≤ k ∧ k < w.heap.size ∧ ∃ q, q ∈ E ∧ ∃ cells, w.heap[k]? = some (.cells cells q (0, 0))) x cs
  M_move : ∀ {w w1 : World} {base ok x cs}, (∀ k, ok k → w1.heap[k]? = w.heap[k]?) → M w base ok x cs → M w1 base ok x cs
  M_lower : ∀ {w base base' ok x cs}, base' ≤ base → M w base ok x cs → M w base' ok x cs

theorem own_move {w w1 : World} {base : Nat} {e : TypeId} {size n : Nat} {v : Value} {xs : List Value} (h : w.ownsRow base e size v n xs) (hm : ∀ k, v.ownBlock = some k → w1.heap[k]? = w.heap[k]?) : w1.ownsRow base e size v n xs := by
  obtain ⟨h1, h2⟩ := h
  refine ⟨h1, ?_⟩
  rcases h2 with h2 | ⟨g, cap, cur, rfl, hg, hh, r⟩
  · exact .inl h2
  · exact .inr ⟨g, cap, cur, rfl, hg, (hm g (by simp [Value.ownBlock])).trans hh, r⟩
theorem own_typed {w : World} {base : Nat} {e : TypeId} {size n : Nat} {v : Value} {xs : List Value} (h : w.ownsRow base e size v n xs) (k : Nat) (hk : v.ownBlock = some k) : ∃ cells, w.heap[k]? = some (.cells cells e (0, 0)) := by
  rcases h.2 with ⟨rfl, _⟩ | ⟨g, cap, cur, rfl, hg, hh, r⟩
  · simp [Value.ownBlock] at hk
  · have : g = k := by simpa [Value.ownBlock] using hk
    subst this
    exact ⟨cur, hh⟩

namespace Kd
/-- A row of elements that is read. -/
def C {α : Type} (d : Kd α) (w : World) (A : Option Addr) (n : Nat) (xs : List α) : Prop := ReadsRow (d.K w) d.sz w A n xs
/-- A row of elements (type e) of the call's own; the elements' rows are not this one. -/
def R {α : Type} (d : Kd α) (e : Nat) (w : World) (base : Nat) (ok : Nat → Prop) (v : Value) (xs : List α) : Prop :=
  (∀ k, v.ownBlock = some k → ok k) ∧ OwnRow (d.M w base (fun k => ok k ∧ some k ≠ v.ownBlock)) e d.sz w base v xs
section
variable {α : Type} {d : Kd α} {e : Nat} {w w1 : World} {base : Nat} {ok ok' : Nat → Prop} {v : Value} {xs : List α}
theorem C_below {A : Option Addr} {n : Nat} (h : d.C w A n xs) (hb : Below w.heap.size w w1) : d.C w1 A n xs := ReadsRow.imp_ h hb (fun _ _ hp => d.K_below hb hp)
theorem R_nil (d : Kd α) (e : Nat) (w : World) (base : Nat) (ok : Nat → Prop) : d.R e w base ok (.slice none 0 0) [] := ⟨fun k hk => by simp [Value.ownBlock] at hk, OwnRow.none_ _ _ _ _ _⟩
theorem R_mono (h : d.R e w base ok v xs) (hok : ∀ k, ok k → ok' k) : d.R e w base ok' v xs := ⟨fun k hk => hok k (h.1 k hk), h.2.imp_ (fun _ _ hp => d.M_mono (fun k hk => ⟨hok k hk.1, hk.2⟩) hp)⟩
theorem R_bound (h : d.R e w base ok v xs) : d.R e w base (fun k => ok k ∧ base ≤ k ∧ k < w.heap.size ∧ ∃ q, q ∈ e :: d.E ∧ ∃ cells, w.heap[k]? = some (.cells cells q (0, 0))) v xs := by
  obtain ⟨h0, inner, ho, hr⟩ := h
  refine ⟨fun k hk => ?_, inner, ho, hr.imp_ (fun _ _ hp => d.M_mono (fun k hk => ?_) (d.M_bound hp))⟩
  · obtain ⟨cells, hc⟩ := own_typed ho k hk
    exact ⟨h0 k hk, own_base ho k hk, own_lt ho k hk, e, List.mem_cons_self, cells, hc⟩
  · obtain ⟨⟨h1, h2⟩, h3, h4, q, hq, hc⟩ := hk
    exact ⟨⟨h1, h3, h4, q, List.mem_cons_of_mem _ hq, hc⟩, h2⟩
theorem R_move (h : d.R e w base ok v xs) (hm : ∀ k, ok k → w1.heap[k]? = w.heap[k]?) : d.R e w1 base ok v xs := by
  obtain ⟨h0, inner, ho, hr⟩ := h
  exact ⟨h0, inner, own_move ho (fun k hk => hm k (h0 k hk)), hr.imp_ (fun _ _ hp => d.M_move (fun k hk => hm k hk.1) hp)⟩
theorem R_lower {base' : Nat} (h : d.R e w base ok v xs) (hb : base' ≤ base) : d.R e w base' ok v xs := by
  obtain ⟨h0, inner, ho, hr⟩ := h
  exact ⟨h0, inner, own_weaken ho hb, hr.imp_ (fun _ _ hp => d.M_lower hb hp)⟩
/-- Any mover: what is ok, and a block of w's, stays. -/
theorem R_step (h : d.R e w base ok v xs) (hm : ∀ k, ok k → k < w.heap.size → w1.heap[k]? = w.heap[k]?) : d.R e w1 base ok v xs :=
  R_mono (R_move (R_bound h) (fun k hk => hm k hk.1 hk.2.2.1)) (fun _ hk => hk.1)
theorem R_below (h : d.R e w base ok v xs) (hb : Below w.heap.size w w1) : d.R e w1 base ok v xs := R_step h (fun k _ hk => hb.block k hk)
/-- A store into another block. -/
theorem R_far (h : d.R e w base ok v xs) {p : Addr} (hok : ∀ k, ok k → k ≠ p.block) (u : Value) : d.R e (w.setCell p u) base ok v xs := R_step h (fun k ho _ => Below.heap_setCell w p u k (hok k ho))
theorem R_keep (h : d.R e w base ok v xs) {g : Nat} (hk : KeepBut w w1 g none) (hok : ∀ k, ok k → k ≠ g) : d.R e w1 base ok v xs := R_step h (fun k ho hlt => hk.2 k hlt (hok k ho) (by simp))
theorem R_reads (h : d.R e w base ok v xs) : ∃ A c, v = .slice A xs.length c ∧ xs.length ≤ c ∧ d.C w A xs.length xs := by
  obtain ⟨A, c, he, hl, hr⟩ := OwnRow.reads h.2
  exact ⟨A, c, he, hl, hr.imp_ (Below.refl _ _) (fun _ _ hp => d.K_of_M hp)⟩
theorem R_slice (h : d.R e w base ok v xs) : ∃ A c, v = .slice A xs.length c := by
  obtain ⟨A, c, he, _⟩ := R_reads h
  exact ⟨A, c, he⟩
theorem R_own (h : d.R e w base ok v xs) : ∃ inner, w.ownsRow base e d.sz v xs.length inner := by
  obtain ⟨_, inner, ho, _⟩ := h
  exact ⟨inner, ho⟩
theorem R_ne (h : d.R e w base ok v xs) {g t : Nat} {cells : Array Value} (hb : w.heap[g]? = some (.cells cells t (0, 0))) (ht : e ≠ t) : some g ≠ v.ownBlock := OwnRow.ne_block h.2 hb ht
end

def scalar {α : Type} (enc : α → Value) (h1 : ∀ x, (enc x).oneCell' = true) : Kd α where
  sz := 1
  E := []
  K := fun _ x cs => cs = [enc x]
  M := fun _ _ _ x cs => cs = [enc x]
  K_len := fun h => by rw [h]; rfl
  K_one := fun h u hu => by
    rw [h] at hu
    rw [List.mem_singleton.1 hu]
    exact h1 _
  K_below := fun _ h => h
  K_of_M := fun h => h
  M_mono := fun _ h => h
  M_bound := fun h => h
  M_move := fun _ h => h
  M_lower := fun _ h => h
def int (k : IntKind) : Kd Int := scalar (Value.int k) (fun _ => rfl)
def bool : Kd Bool := scalar Value.bool (fun _ => rfl)
def string : Kd ByteArray := scalar Value.string (fun _ => rfl)
def slice {α : Type} (e : Nat) (d : Kd α) : Kd (List α) where
  sz := 1
  E := e :: d.E
  K := fun w xs cs => ∃ A c, cs = [.slice A xs.length c] ∧ xs.length ≤ c ∧ d.C w A xs.length xs
  M := fun w base ok xs cs => ∃ v, cs = [v] ∧ d.R e w base ok v xs
  K_len := by
    rintro w x cs ⟨A, c, rfl, _⟩
    rfl
  K_one := by
    rintro w x cs ⟨A, c, rfl, _⟩ u hu
    rw [List.mem_singleton.1 hu]
    rfl
  K_below := by
    rintro w w1 x cs hb ⟨A, c, rfl, hl, hr⟩
    exact ⟨A, c, rfl, hl, C_below hr hb⟩
  K_of_M := by
    rintro w base ok x cs ⟨v, rfl, h⟩
    obtain ⟨A, c, rfl, hl, hr⟩ := R_reads h
    exact ⟨A, c, rfl, hl, hr⟩
  M_mono := by
    rintro w base ok ok' x cs hok ⟨v, rfl, h⟩
    exact ⟨v, rfl, R_mono h hok⟩
  M_bound := by
    rintro w base ok x cs ⟨v, rfl, h⟩
    exact ⟨v, rfl, R_bound h⟩
  M_move := by
    rintro w w1 base ok x cs hm ⟨v, rfl, h⟩
    exact ⟨v, rfl, R_move h hm⟩
  M_lower := by
    rintro w base base' ok x cs hb ⟨v, rfl, h⟩
    exact ⟨v, rfl, R_lower h hb⟩
/-- Two in line. -/
def pair {α β : Type} (a : Kd α) (b : Kd β) : Kd (α × β) where
  sz := a.sz + b.sz
  E := a.E ++ b.E
  K := fun w x cs => ∃ c0 c1, cs = c0 ++ c1 ∧ a.K w x.1 c0 ∧ b.K w x.2 c1
  M := fun w base ok x cs => ∃ c0 c1, cs = c0 ++ c1 ∧ a.M w base ok x.1 c0 ∧ b.M w base ok x.2 c1
  K_len := by
    rintro w x cs ⟨c0, c1, rfl, h0, h1⟩
    rw [List.length_append, a.K_len h0, b.K_len h1]
  K_one := by
    rintro w x cs ⟨c0, c1, rfl, h0, h1⟩ u hu
    rcases List.mem_append.1 hu with hu | hu
    · exact a.K_one h0 u hu
    · exact b.K_one h1 u hu
  K_below := by
    rintro w w1 x cs hb ⟨c0, c1, rfl, h0, h1⟩
    exact ⟨c0, c1, rfl, a.K_below hb h0, b.K_below hb h1⟩
  K_of_M := by
    rintro w base ok x cs ⟨c0, c1, rfl, h0, h1⟩
    exact ⟨c0, c1, rfl, a.K_of_M h0, b.K_of_M h1⟩
  M_mono := by
    rintro w base ok ok' x cs hok ⟨c0, c1, rfl, h0, h1⟩
    exact ⟨c0, c1, rfl, a.M_mono hok h0, b.M_mono hok h1⟩
  M_bound := by
    rintro w base ok x cs ⟨c0, c1, rfl, h0, h1⟩
    refine ⟨c0, c1, rfl, a.M_mono ?_ (a.M_bound h0), b.M_mono ?_ (b.M_bound h1)⟩
    · rintro k ⟨h2, h3, h4, q, hq, hc⟩
      exact ⟨h2, h3, h4, q, List.mem_append_left _ hq, hc⟩
    · rintro k ⟨h2, h3, h4, q, hq, hc⟩
      exact ⟨h2, h3, h4, q, List.mem_append_right _ hq, hc⟩
  M_move := by
    rintro w w1 base ok x cs hm ⟨c0, c1, rfl, h0, h1⟩
    exact ⟨c0, c1, rfl, a.M_move hm h0, b.M_move hm h1⟩
  M_lower := by
    rintro w base base' ok x cs hb ⟨c0, c1, rfl, h0, h1⟩
    exact ⟨c0, c1, rfl, a.M_lower hb h0, b.M_lower hb h1⟩
/-- A Lean structure by its fields. -/
def iso {α β : Type} (d : Kd α) (f : β → α) : Kd β where
  sz := d.sz
  E := d.E
  K := fun w x cs => d.K w (f x) cs
  M := fun w base ok x cs => d.M w base ok (f x) cs
  K_len := d.K_len
  K_one := d.K_one
  K_below := d.K_below
  K_of_M := d.K_of_M
  M_mono := d.M_mono
  M_bound := d.M_bound
  M_move := d.M_move
  M_lower := d.M_lower
/-- Nothing is of this kind: where the nesting's depth is used up. -/
def bot {α : Type} (sz : Nat) (E : List Nat) : Kd α where
  sz := sz
  E := E
  K := fun _ _ _ => False
  M := fun _ _ _ _ _ => False
  K_len := fun h => h.elim
  K_one := fun h => h.elim
  K_below := fun _ h => h
  K_of_M := fun h => h
  M_mono := fun _ h => h
  M_bound := fun h => h
  M_move := fun _ h => h
  M_lower := fun _ h => h
/-- A type nested in itself: nested at most n deep .. -/
def upto {α : Type} (F : Kd α → Kd α) (sz : Nat) (E : List Nat) : Nat → Kd α
  | 0 => bot sz E
  | n + 1 => F (upto F sz E n)
theorem C_get {α : Type} {d : Kd α} {w : World} {A : Option Addr} {n : Nat} {xs : List α} (h : d.C w A n xs) (z : α) (i : Int) (h0 : 0 ≤ i) (h1 : i < n) :
    ∃ ad c, A = some ad ∧ c.length = d.sz ∧ d.K w (xs.getD i.toNat z) c ∧ ∀ j u, c[j]? = some u → w.cell? (ad.add (i.toNat * d.sz + j)) = some u := ReadsRow.get_ h z i h0 h1
/-- What an append leaves: the old elements' rows and the new one's are not the new row's block. -/
theorem R_appended {α : Type} {d : Kd α} {e base : Nat} {ok okp : Nat → Prop} {W w1 : World} {v v1 : Value} {xs : List α} {p : α} {inner cs : List Value} (h0 : ∀ k, v.ownBlock = some k → ok k) (hr : Reps (d.M W base (fun k => ok k ∧ some k ≠ v.ownBlock)) d.sz xs inner) (hp : d.M W base okp p cs) (hokp : ∀ k, okp k → ok k ∧ some k ≠ v.ownBlock) (hfresh : ∀ k, W.heap.size ≤ k → ok k)
    (hown : w1.ownsRow base e d.sz v1 (xs.length + 1) (inner ++ cs)) (hg : W.grownBy w1 v.ownBlock) (hat : v1.ownBlock = v.ownBlock ∨ ∃ b, v1.ownBlock = some b ∧ W.heap.size ≤ b) : d.R e w1 base ok v1 (xs ++ [p]) := by
  have hne : ∀ k, some k ≠ v.ownBlock → k < W.heap.size → some k ≠ v1.ownBlock := by
    intro k hk hlt
    rcases hat with hat | ⟨b, hb, hle⟩
    · rw [hat]; exact hk
    · rw [hb]
      intro he
      injection he with he
      omega
  have step : ∀ {q : α} {c : List Value} {o : Nat → Prop}, d.M W base o q c → (∀ k, o k → ok k ∧ some k ≠ v.ownBlock) → d.M w1 base (fun k => ok k ∧ some k ≠ v1.ownBlock) q c := by
    intro q c o hq ho
    have h1 := d.M_move (w1 := w1) (fun k hk => hg.block k hk.2.2.1 (ho k hk.1).2) (d.M_bound hq)
    exact d.M_mono (fun k hk => ⟨(ho k hk.1).1, hne k (ho k hk.1).2 hk.2.2.1⟩) h1
  refine ⟨fun k hk => ?_, inner ++ cs, by rw [List.length_append, List.length_singleton]; exact hown, ?_⟩
  · rcases hat with hat | ⟨b, hb, hle⟩
    · exact h0 k (hat ▸ hk)
    · rw [hb] at hk
      injection hk with hk
      exact hfresh k (by omega)
  · exact (hr.imp_ (fun _ _ hq => step hq (fun _ hk => hk))).snoc (step hp hokp) (d.K_len (d.K_of_M hp))
section
variable {P : Program} {ops : Array Oper} {rest : List Oper} {o : Oper} {a : Act} {Q : Exit → Act → World → Prop} {α : Type}
/-- append(v, x), behind 'at_builtin'; the goal's world is 'W.alloc' of the variadic's box; x's cells are cs, made (its rows satisfy okp). hfresh: a block that is new at W is ok. -/
theorem R_append (d : Kd α) {w0 W : World} (base : Nat) (hgd : o.guard = none) (s x : Operand) (t e : TypeId) (z : Value) (bytes : Nat)
    (ho : o.op = .call { callee := .builtin .append, args := #[s, x], argTypes := #[t, t] })
    (ht : P.underlying t = some (.slice e)) (hinfo : (P.info? e).map (fun i => (i.zero, i.size, i.bytes)) = some (some z, d.sz, bytes)) (hz : z.cells.size = d.sz) (hs0 : 0 < d.sz) (hb0 : 0 < bytes)
    (v : Value) (xs : List α) (p : α) (cs : List Value) (ok okp : Nat → Prop) (hs : a.eval s = v) (hx : a.eval x = .slice (some ⟨W.heap.size, 0, none⟩) 1 1) (hp : d.M W base okp p cs) (hokp : ∀ k, okp k → ok k ∧ some k ≠ v.ownBlock) (hfresh : ∀ k, W.heap.size ≤ k → ok k)
    (HO : d.R e W base ok v xs) (HB : Below base w0 W) (hbase : base ≤ W.heap.size) (hl : (xs.length + 1) * bytes ≤ 140737488355328)
    (h : ∀ v1 w1, d.R e w1 base ok v1 (xs ++ [p]) → Below base w0 w1 → W.grownBy w1 v.ownBlock → (v1.ownBlock = v.ownBlock ∨ ∃ b, v1.ownBlock = some b ∧ W.heap.size ≤ b) → wpList P ops Q rest (a.put o.dst v1) w1) :
    wpList P ops Q (o :: rest) a (W.alloc (.cells cs.toArray e)) := by
  obtain ⟨h0, inner, hown, hr⟩ := HO
  refine print_append_cells base hgd s x t e z d.sz bytes ho ht hinfo hz hs0 hb0 v xs.length inner cs hs hx (d.K_len (d.K_of_M hp)) (d.K_one (d.K_of_M hp)) hown HB hbase hl ?_
  intro v1 w1 hown1 hb1 hg1 hat1
  exact h v1 w1 (R_appended h0 hr hp hokp hfresh hown1 hg1 hat1) hb1 hg1 hat1
end
section
variable {P : Program} {ops : Array Oper} {o : Oper} {a : Act} {Q : Exit → Act → World → Prop} {Kc : Act → World → Prop} {α : Type}
end
/-- A row of scalars is the elder form. -/
theorem reps_scalar {α : Type} {enc : α → Value} (xs : List α) : Reps (fun (x : α) (cs : List Value) => cs = [enc x]) 1 xs (encs enc xs) := by
  refine ⟨by simp [encs], fun j p hj => ?_⟩
  obtain ⟨hl, hp⟩ := List.getElem?_eq_some_iff.1 hj
  have hl' : j < (encs enc xs).length := by rw [encs_length]; exact hl
  rw [Nat.mul_one, List.drop_eq_getElem_cons hl']
  simp [encs, hp]
theorem R_of_own {α : Type} {enc : α → Value} {h1 : ∀ x, (enc x).oneCell' = true} {e : Nat} {w : World} {base : Nat} {ok : Nat → Prop} {v : Value} {xs : List α} (ho : w.ownsRow base e 1 v xs.length (encs enc xs)) (hok : ∀ k, v.ownBlock = some k → ok k) : (scalar enc h1).R e w base ok v xs := ⟨hok, encs enc xs, ho, reps_scalar xs⟩
theorem own_of_R {α : Type} {enc : α → Value} {h1 : ∀ x, (enc x).oneCell' = true} {e : Nat} {w : World} {base : Nat} {ok : Nat → Prop} {v : Value} {xs : List α} (h : (scalar enc h1).R e w base ok v xs) : w.ownsRow base e 1 v xs.length (encs enc xs) := by
  obtain ⟨_, inner, ho, hr⟩ := h
  have : inner = encs enc xs := by
    apply List.ext_getElem?
    intro j
    rcases Nat.lt_or_ge j xs.length with hj | hj
    · have h2 := hr.2 j _ (List.getElem?_eq_getElem hj)
      have hl : j < inner.length := by have := hr.1; simp [scalar] at this; omega
      have h3 : (inner.drop (j * 1)).take 1 = [enc xs[j]] := h2
      rw [Nat.mul_one, List.drop_eq_getElem_cons hl] at h3
      have h4 : inner[j] = enc xs[j] := by
        have h5 := congrArg List.head? h3
        rw [List.take_succ_cons] at h5
        exact Option.some.inj h5
      rw [List.getElem?_eq_getElem hl, h4]
      simp [encs, List.getElem?_eq_getElem hj]
    · have h3 : inner.length = xs.length := by have := hr.1; simp [scalar] at this; omega
      rw [List.getElem?_eq_none (by omega), List.getElem?_eq_none (by rw [encs_length]; omega)]
  rw [← this]
  exact ho
theorem C_of_reads {α : Type} {enc : α → Value} {d : α} {h1 : ∀ x, (enc x).oneCell' = true} {w : World} {A : Option Addr} {n : Nat} {xs : List α} (h : ReadsOf enc d w A n xs) : (scalar enc h1).C w A n xs := by
  refine ⟨h.1, h.2.1, fun hn => ?_⟩
  obtain ⟨ad, e, hc⟩ := h.2.2 hn
  refine ⟨ad, e, fun j p hj => ⟨[enc p], rfl, rfl, fun i u hu => ?_⟩⟩
  obtain ⟨hl, hp⟩ := List.getElem?_eq_some_iff.1 hj
  have h2 := hc j (by have := h.1; omega)
  rw [List.getD_eq_getElem?_getD, hj] at h2
  cases i with
  | zero =>
    have : enc p = u := by simpa using hu
    subst this
    simpa [scalar] using h2
  | succ i => simp at hu
theorem reads_of_C {α : Type} {enc : α → Value} {d : α} {h1 : ∀ x, (enc x).oneCell' = true} {w : World} {A : Option Addr} {n : Nat} {xs : List α} (h : (scalar enc h1).C w A n xs) : ReadsOf enc d w A n xs := by
  refine ⟨h.1, h.2.1, fun hn => ?_⟩
  obtain ⟨ad, e, hc⟩ := h.2.2 hn
  refine ⟨ad, e, fun j hj => ?_⟩
  have hl : j < xs.length := by have := h.1; omega
  obtain ⟨c, _, hK, hcell⟩ := hc j _ (List.getElem?_eq_getElem hl)
  have hK' : c = [enc xs[j]] := hK
  subst hK'
  have := hcell 0 _ rfl
  simpa [scalar, List.getD_eq_getElem?_getD, List.getElem?_eq_getElem hl] using this
end Kd
namespace Kd
section
variable {α : Type} {F : Kd α → Kd α} {sz : Nat} {E : List Nat} {hs : ∀ n, (upto F sz E n).sz = sz} {hE : ∀ n q, q ∈ (upto F sz E n).E → q ∈ E}
end
end Kd
namespace Kd
end Kd
namespace Kd
section
variable {α β : Type} {d : Kd α} {d' : Kd β} {e e' : Nat} {w w1 W : World} {base b b' : Nat} {ok ok' okv oku : Nat → Prop} {v u : Value} {xs : List α} {ys : List β}
theorem C_nil (d : Kd α) (w : World) : d.C w none ([] : List α).length [] := ⟨rfl, by simp, fun h => absurd h (Nat.lt_irrefl 0)⟩
theorem C_max {A : Option Addr} {n : Nat} (h : d.C w A n xs) : n ≤ 9223372036854775807 := h.2.1
theorem R_reads' {A : Option Addr} {n c : Nat} (h : d.R e w base ok (.slice A n c) xs) : n = xs.length ∧ n ≤ c ∧ d.C w A xs.length xs := by
  obtain ⟨A', c', he, hl, hr⟩ := R_reads h
  injection he with h1 h2 h3
  subst h1
  exact ⟨h2, by omega, hr⟩
theorem R_lt (h : d.R e w base ok v xs) : ∀ k, v.ownBlock = some k → k < w.heap.size := by
  obtain ⟨inner, ho⟩ := R_own h
  exact own_lt ho
end
section
variable {w W : World} {A : Option Addr} {n : Nat}
theorem at_string {xs : List ByteArray} (h : Kd.string.C w A n xs) (i : Int) (h0 : 0 ≤ i) (h1 : i < n) : ∃ ad, A = some ad ∧ w.cell? (ad.add i.toNat) = some (.string (rdOf ByteArray.empty xs i)) :=
  ReadsOf.at_ (reads_of_C (enc := Value.string) (d := ByteArray.empty) (h1 := fun _ => rfl) h) i h0 h1
variable {α : Type} {enc : α → Value} {h1 : ∀ x, (enc x).oneCell' = true} {e base g cap : Nat} {ok : Nat → Prop} {xs : List α}
end

section
variable {P : Program} {ops : Array Oper} {rest : List Oper} {o : Oper} {a : Act} {Q : Exit → Act → World → Prop}
variable {α : Type}
end
end Kd
theorem own_take {w : World} {base n m c size : Nat} {e : TypeId} {A : Option Addr} {xs : List Value} (h : w.ownsRow base e size (.slice A n c) n xs) (hm : m ≤ n) : w.ownsRow base e size (.slice A m c) m (xs.take (m * size)) := by
  obtain ⟨h1, h2⟩ := h
  refine ⟨by rw [List.length_take, h1]; exact Nat.min_eq_left (Nat.mul_le_mul_right _ hm), ?_⟩
  rcases h2 with ⟨he, h0⟩ | ⟨g, cap, cur, he, hb, hh, hnc, hcm, hcs, ht⟩
  · injection he with ha _ hc
    subst ha; subst hc
    exact .inl ⟨by rw [show m = 0 by omega], by omega⟩
  · injection he with ha _ hc
    subst ha; subst hc
    refine .inr ⟨g, c, cur, rfl, hb, hh, by omega, hcm, hcs, ?_⟩
    rw [← ht, List.take_take, Nat.min_eq_left (Nat.mul_le_mul_right _ hm)]
section
variable {P : Program}
end
/-- A row of one's own that may begin inside its block. -/
def QRow (w : World) (base : Nat) (e : TypeId) (size : Nat) (v : Value) (n : Nat) (xs : List Value) : Prop :=
  xs.length = n * size ∧
  ((n = 0 ∧ ∃ A, v = .slice A 0 0 ∧ ∀ a, A = some a → base ≤ a.block ∧ ∃ cur, w.heap[a.block]? = some (.cells cur e (0, 0))) ∨
   ∃ g off cap cur, v = .slice (some ⟨g, off * size, none⟩) n cap ∧ base ≤ g ∧ w.heap[g]? = some (.cells cur e (0, 0)) ∧ n ≤ cap ∧ off + cap ≤ maxLen ∧ cur.size = (off + cap) * size ∧ (cur.toList.drop (off * size)).take (n * size) = xs)
section
variable {w w1 : World} {base n size : Nat} {e : TypeId} {v : Value} {xs : List Value}
theorem q_typed (h : QRow w base e size v n xs) (k : Nat) (hk : v.ownBlock = some k) : base ≤ k ∧ ∃ cells, w.heap[k]? = some (.cells cells e (0, 0)) := by
  rcases h.2 with ⟨_, A, rfl, hA⟩ | ⟨g, off, cap, cur, rfl, hg, hh, r⟩
  · cases A with
    | none => simp [Value.ownBlock] at hk
    | some a =>
      have : a.block = k := by simpa [Value.ownBlock] using hk
      subst this
      exact hA a rfl
  · have : g = k := by simpa [Value.ownBlock] using hk
    subst this
    exact ⟨hg, cur, hh⟩
theorem q_slice (h : QRow w base e size v n xs) : ∃ A c, v = .slice A n c ∧ n ≤ c := by
  rcases h.2 with ⟨h0, A, rfl, _⟩ | ⟨g, off, cap, cur, rfl, hg, hh, hnc, r⟩
  · exact ⟨A, 0, by rw [h0], by omega⟩
  · exact ⟨_, cap, rfl, hnc⟩
theorem q_max (h : QRow w base e size v n xs) : n ≤ 9223372036854775807 := by
  rcases h.2 with ⟨h0, _⟩ | ⟨g, off, cap, cur, rfl, hg, hh, hnc, hm, r⟩
  · omega
  · simp only [maxLen] at hm
    omega
theorem add_at (g o j : Nat) : (⟨g, o, none⟩ : Addr).add j = ⟨g, o + j, none⟩ := by unfold Addr.add; split <;> simp_all
theorem q_cells {A : Option Addr} {c : Nat} (h : QRow w base e size (.slice A n c) n xs) (hn : 0 < n) : ∃ ad, A = some ad ∧ ∀ j u, xs[j]? = some u → w.cell? (ad.add j) = some u := by
  rcases h.2 with ⟨h0, _⟩ | ⟨g, off, cap, cur, he, hg, hh, hnc, hm, hcs, ht⟩
  · omega
  · injection he with ha _ hc
    subst ha
    refine ⟨_, rfl, fun j u hu => ?_⟩
    rw [add_at, cell_of_row w g _ cur e (0, 0) hh]
    rw [← ht, List.getElem?_take] at hu
    split at hu
    · rw [List.getElem?_drop] at hu
      rw [← Array.getElem?_toList]
      exact hu
    · cases hu
/-- What a run of cells written leaves. -/
theorem setCells_far {g : Nat} : ∀ (vs : List Value) (o : Nat) {w : World} (k : Nat), k ≠ g → (w.setCells g o vs).heap[k]? = w.heap[k]?
  | [], _, _, _, _ => rfl
  | v :: r, o, w, k, hk => by
    rw [World.setCells, setCells_far r (o + 1) k hk]
    exact Below.heap_setCell w ⟨g, o, none⟩ v k hk
theorem setCells_same (g : Nat) : ∀ (vs : List Value) (o : Nat) (w : World), (w.setCells g o vs).os = w.os ∧ (w.setCells g o vs).tape = w.tape ∧ (w.setCells g o vs).output = w.output ∧ (w.setCells g o vs).heap.size = w.heap.size
  | [], _, _ => ⟨rfl, rfl, rfl, rfl⟩
  | v :: r, o, w => by
    obtain ⟨h1, h2, h3, h4⟩ := setCells_same g r (o + 1) (w.setCell ⟨g, o, none⟩ v)
    rw [World.setCells]
    exact ⟨h1, h2, h3, by rw [h4]; simp [World.setCell]⟩
theorem setCells_row {g : Nat} {e : TypeId} : ∀ (vs : List Value) (o : Nat) (w : World) (cur : Array Value), w.heap[g]? = some (.cells cur e (0, 0)) → o + vs.length ≤ cur.size →
    ∃ cur', (w.setCells g o vs).heap[g]? = some (.cells cur' e (0, 0)) ∧ cur'.size = cur.size ∧ cur'.toList = cur.toList.take o ++ vs ++ cur.toList.drop (o + vs.length)
  | [], o, w, cur, h, _ => ⟨cur, h, rfl, by simp⟩
  | v :: r, o, w, cur, h, hl => by
    have h2 := blk_set h o v
    simp only [List.length_cons] at hl
    obtain ⟨cur', h3, h4, h5⟩ := setCells_row r (o + 1) (w.setCell ⟨g, o, none⟩ v) _ h2 (by simp; omega)
    refine ⟨cur', h3, by rw [h4]; simp, ?_⟩
    rw [h5, Array.toList_setIfInBounds]
    have ho : o < cur.toList.length := by rw [Array.length_toList]; omega
    rw [List.take_set, List.drop_set_of_lt (by omega)]
    simp only [List.length_cons]
    rw [show o + 1 + r.length = o + (r.length + 1) by omega]
    congr 1
    rw [List.take_succ_eq_append_getElem ho, List.set_append_right _ _ (by rw [List.length_take]; omega)]
    have ho' : o < cur.size := by omega
    simp [Nat.min_eq_left (Nat.le_of_lt ho')]
end
section
variable {P : Program}
end
namespace Kd
theorem reps_take {α : Type} {R : α → List Value → Prop} {size m : Nat} {ps : List α} {cs : List Value} (h : Reps R size ps cs) (hm : m ≤ ps.length) : Reps R size (ps.take m) (cs.take (m * size)) := by
  refine ⟨by rw [List.length_take, List.length_take, h.1, Nat.min_eq_left hm, Nat.min_eq_left (Nat.mul_le_mul_right _ hm)], fun j p hj => ?_⟩
  rw [List.getElem?_take] at hj
  split at hj
  · rename_i hjm
    have := h.2 j p hj
    have hle : j * size + size ≤ m * size := by rw [← Nat.succ_mul]; exact Nat.mul_le_mul_right _ hjm
    rw [List.drop_take, List.take_take, Nat.min_eq_left (by omega)]
    exact this
  · cases hj
theorem R_take {α : Type} {d : Kd α} {e m n c : Nat} {w : World} {base : Nat} {ok : Nat → Prop} {A : Option Addr} {xs : List α} (h : d.R e w base ok (.slice A n c) xs) (hm : m ≤ xs.length) : d.R e w base ok (.slice A m c) (xs.take m) := by
  obtain ⟨h0, inner, ho, hr⟩ := h
  have hn : n = xs.length := by
    obtain ⟨A', c', he⟩ := own_slice ho
    injection he
  subst hn
  have hb : ∀ x y : Nat, (Value.slice A x c).ownBlock = (Value.slice A y c).ownBlock := by
    intro x y
    cases A <;> rfl
  refine ⟨fun k hk => h0 k (by rw [hb _ m]; exact hk), inner.take (m * d.sz), ?_, ?_⟩
  · rw [List.length_take, Nat.min_eq_left hm]
    exact own_take ho hm
  · rw [hb m xs.length]
    exact reps_take hr hm
def Q {α : Type} (d : Kd α) (e : Nat) (w : World) (base : Nat) (ok : Nat → Prop) (v : Value) (xs : List α) : Prop :=
  (∀ k, v.ownBlock = some k → ok k) ∧ ∃ inner, QRow w base e d.sz v xs.length inner ∧ Reps (d.M w base (fun k => ok k ∧ some k ≠ v.ownBlock)) d.sz xs inner
section
variable {α : Type} {d : Kd α} {e : Nat} {w w1 W : World} {base : Nat} {ok ok' : Nat → Prop} {v : Value} {xs : List α}
theorem Q_reads' {A : Option Addr} {n c : Nat} (h : d.Q e w base ok (.slice A n c) xs) : n = xs.length ∧ n ≤ c ∧ d.C w A xs.length xs := by
  obtain ⟨_, inner, ho, hr⟩ := h
  obtain ⟨A', c', he, hl⟩ := q_slice ho
  injection he with h1 h2 h3
  subst h1; subst h2; subst h3
  refine ⟨rfl, hl, rfl, q_max ho, fun hp => ?_⟩
  obtain ⟨ad, ha, hc⟩ := q_cells ho hp
  refine ⟨ad, ha, fun j p hj => ⟨(inner.drop (j * d.sz)).take d.sz, ?_, d.K_of_M (hr.2 j p hj), fun i u hu => ?_⟩⟩
  · have hjl := (List.getElem?_eq_some_iff.1 hj).1
    have h1 : j * d.sz + d.sz ≤ inner.length := by rw [hr.1, ← Nat.succ_mul]; exact Nat.mul_le_mul_right _ hjl
    rw [List.length_take, List.length_drop]
    omega
  · refine hc _ u ?_
    rw [List.getElem?_take] at hu
    split at hu
    · rw [List.getElem?_drop] at hu
      exact hu
    · cases hu
end
section
variable {P : Program} {ops : Array Oper} {rest : List Oper} {o : Oper} {a : Act} {Q' : Exit → Act → World → Prop} {Kc : Act → World → Prop} {α : Type}
end
end Kd
namespace Kd
section
variable {α : Type} {d : Kd α} {e e' : Nat} {w w1 W : World} {base : Nat} {ok : Nat → Prop} {u v : Value} {xs : List α}
end
end Kd
theorem seg_get {α : Type} (a seg : List α) (o : Nat) (h : o + seg.length ≤ a.length) (q : Nat) :
    (a.take o ++ seg ++ a.drop (o + seg.length))[q]? = if q < o then a[q]? else if q < o + seg.length then seg[q - o]? else a[q]? := by
  have hl : (a.take o).length = o := by rw [List.length_take]; omega
  rw [List.append_assoc]
  by_cases h1 : q < o
  · rw [if_pos h1, List.getElem?_append_left (by omega), List.getElem?_take, if_pos h1]
  · rw [if_neg h1, List.getElem?_append_right (by omega), hl]
    by_cases h2 : q < o + seg.length
    · rw [if_pos h2, List.getElem?_append_left (by omega)]
    · rw [if_neg h2, List.getElem?_append_right (by omega), List.getElem?_drop]
      congr 1
      omega
namespace Kd
section
variable {α : Type} {d : Kd α} {e base g n cap : Nat} {ok okp : Nat → Prop} {W : World} {xs : List α}
end
end Kd
namespace Kd
def fixed {α : Type} (d : Kd α) (w0 : World) : Kd α where
  sz := d.sz
  E := []
  K := fun _ x cs => d.K w0 x cs
  M := fun _ _ _ x cs => d.K w0 x cs
  K_len := d.K_len
  K_one := d.K_one
  K_below := fun _ h => h
  K_of_M := fun h => h
  M_mono := fun _ h => h
  M_bound := fun h => h
  M_move := fun _ h => h
  M_lower := fun _ h => h
def or_ {α : Type} (a b : Kd α) (h : b.sz = a.sz) : Kd α where
  sz := a.sz
  E := a.E ++ b.E
  K := fun w x cs => a.K w x cs ∨ b.K w x cs
  M := fun w base ok x cs => a.M w base ok x cs ∨ b.M w base ok x cs
  K_len := fun hk => hk.elim a.K_len (fun hk => (b.K_len hk).trans h)
  K_one := fun hk => hk.elim a.K_one b.K_one
  K_below := fun hb hk => hk.imp (a.K_below hb) (b.K_below hb)
  K_of_M := fun hk => hk.imp a.K_of_M b.K_of_M
  M_mono := fun hok hk => hk.imp (a.M_mono hok) (b.M_mono hok)
  M_bound := fun hk => hk.imp
    (fun hk => a.M_mono (fun _ ⟨h1, h2, h3, q, hq, hc⟩ => ⟨h1, h2, h3, q, List.mem_append_left _ hq, hc⟩) (a.M_bound hk))
    (fun hk => b.M_mono (fun _ ⟨h1, h2, h3, q, hq, hc⟩ => ⟨h1, h2, h3, q, List.mem_append_right _ hq, hc⟩) (b.M_bound hk))
  M_move := fun hm hk => hk.imp (a.M_move hm) (b.M_move hm)
  M_lower := fun hb hk => hk.imp (a.M_lower hb) (b.M_lower hb)
section
variable {α : Type} {F : Kd α → Kd α} {sz : Nat} {E : List Nat} {hs : ∀ n, (upto F sz E n).sz = sz} {hE : ∀ n q, q ∈ (upto F sz E n).E → q ∈ E}
end
end Kd
namespace Kd
section
variable {P : Program} {ops : Array Oper} {rest : List Oper} {o : Oper} {a : Act} {Q : Exit → Act → World → Prop} {α : Type}
end
end Kd
namespace Kd
section
variable {P : Program} {ops : Array Oper} {rest : List Oper} {o : Oper} {a : Act} {Q : Exit → Act → World → Prop} {α : Type}
end
end Kd
theorem add_add (a : Addr) (i j : Nat) : (a.add i).add j = a.add (i + j) := by
  unfold Addr.add
  by_cases h1 : i = 0 <;> by_cases h2 : j = 0 <;> simp [h1, h2, Nat.add_assoc]
namespace Kd
section
variable {α : Type} {k : Kd α} {w : World} {A : Option Addr} {xs : List α} {m c : Nat}
end
end Kd
section
variable {P : Program}
end
theorem string_of_reads {P : Program} {w : World} {src dst e : TypeId} {A : Option Addr} {n c : Nat} {xs : List Int} (hs : P.underlying src = some (.slice e)) (he : P.underlying e = some (.int .u8)) (hd : P.underlying dst = some .string)
    (h : ReadsInt w .u8 A n xs) : (convert src dst (.slice A n c)).run P w = .ok (.string (strOfNums xs)) w := by
  have hn : xs.length = n := h.1
  rcases A with _ | ad
  · have h0 : n = 0 := by
      rcases Nat.eq_zero_or_pos n with h0 | h0
      · exact h0
      · obtain ⟨ad, h', _⟩ := h.2.2 h0
        cases h'
    subst h0
    obtain rfl : xs = [] := List.eq_nil_of_length_eq_zero hn
    exact run_convert_bytes_nil w src e hs he 0 c dst hd
  · have hl : (loadCells ad n).run P w = .ok (xs.map (Value.int .u8)).toArray w := by
      have := run_loadCells_list (P := P) w ad (xs.map (Value.int .u8)) (fun j v hj => by
        have hjl : j < xs.length := by
          rcases Nat.lt_or_ge j xs.length with h' | h'
          · exact h'
          · rw [List.getElem?_eq_none (by rw [List.length_map]; exact h')] at hj
            cases hj
        obtain ⟨ad', he', hc⟩ := h.2.2 (by omega)
        injection he' with he'
        subst he'
        rw [hc j (by omega)]
        rw [List.getElem?_map, List.getElem?_eq_getElem hjl] at hj
        simp at hj
        subst hj
        simp [List.getD_eq_getElem?_getD, List.getElem?_eq_getElem hjl])
      simpa [hn] using this
    rw [run_convert_bytes_string w src dst e _ n c hs he hd, run_bytesToString w ad n c xs hl, foldl_push_bytes]
    simp [strOfNums, ByteArray.empty, ByteArray.emptyWithCapacity]
    rfl
theorem Kd.C_string {P : Program} {w : World} {src dst e : TypeId} {A : Option Addr} {n c : Nat} {xs : List Int} (hs : P.underlying src = some (.slice e)) (he : P.underlying e = some (.int .u8)) (hd : P.underlying dst = some .string)
    (h : (Kd.int .u8).C w A n xs) : (convert src dst (.slice A n c)).run P w = .ok (.string (strOfNums xs)) w :=
  string_of_reads hs he hd (Kd.reads_of_C (enc := Value.int .u8) (d := (0 : Int)) (h1 := fun _ => rfl) h)
theorem ReadsInt.nil (W : World) (k : IntKind) : ReadsInt W k none ([] : List Int).length [] := ⟨rfl, by simp, fun h => absurd h (Nat.lt_irrefl 0)⟩
theorem ReadsInt.drewN {W : World} {k : IntKind} {A : Option Addr} {n : Nat} {xs : List Int} (h : ReadsInt W k A n xs) (m : Nat) : ReadsInt (W.drewN m) k A n xs := h
theorem keep_cell {w W : World} {g : Nat} (h : KeepBut w W g none) {a : Addr} {v : Value} (hc : w.cell? a = some v) (hne : a.block ≠ g) : W.cell? a = some v := by
  have := h.2 a.block (World.block_lt_of_cell? w a hc) hne (by simp)
  simpa [World.cell?, this] using hc
theorem add_block (a : Addr) (i : Nat) : (a.add i).block = a.block := by unfold Addr.add; split <;> rfl
theorem ReadsOf.nil {α : Type} (enc : α → Value) (d : α) (W : World) : ReadsOf enc d W none ([] : List α).length [] := ⟨rfl, by simp, fun h => absurd h (Nat.lt_irrefl 0)⟩
theorem ReadsOf.drewN {α : Type} {enc : α → Value} {d : α} {W : World} {A : Option Addr} {n : Nat} {xs : List α} (h : ReadsOf enc d W A n xs) (m : Nat) : ReadsOf enc d (W.drewN m) A n xs := h
theorem ReadsInt.keep {w W : World} {k : IntKind} {A : Option Addr} {n g : Nat} {xs : List Int} (h : ReadsInt w k A n xs) (hk : KeepBut w W g none) (hf : ∀ ad, A = some ad → 0 < n → ad.block ≠ g) : ReadsInt W k A n xs :=
  ⟨h.1, h.2.1, fun hn => by
    obtain ⟨ad, e, hc⟩ := h.2.2 hn
    exact ⟨ad, e, fun j hj => keep_cell hk (hc j hj) (by rw [add_block]; exact hf ad e hn)⟩⟩
theorem ReadsOf.keep {α : Type} {enc : α → Value} {d : α} {w W : World} {A : Option Addr} {n g : Nat} {xs : List α} (h : ReadsOf enc d w A n xs) (hk : KeepBut w W g none) (hf : ∀ ad, A = some ad → 0 < n → ad.block ≠ g) : ReadsOf enc d W A n xs :=
  ⟨h.1, h.2.1, fun hn => by
    obtain ⟨ad, e, hc⟩ := h.2.2 hn
    exact ⟨ad, e, fun j hj => keep_cell hk (hc j hj) (by rw [add_block]; exact hf ad e hn)⟩⟩
theorem below_drew1 {base : Nat} {w W : World} (h : Below base w W) : Below base w W.drew := h.drew
namespace Kd
section
variable {α β : Type} {d : Kd α} {d' : Kd β} {e e' base base' n : Nat} {ok ok' : Nat → Prop} {w W w1 W1 : World} {v u : Value} {xs : List α} {ys : List β} {A : Option Addr} {c : Nat}
end
section
variable {α : Type} {enc : α → Value} {h1 : ∀ x, (enc x).oneCell' = true} {w W : World} {A : Option Addr} {n g : Nat} {xs : List α}
end
end Kd
namespace Kd
section
variable {α : Type} {d : Kd α} {e base g : Nat} {ok : Nat → Prop} {w w1 : World} {v : Value} {xs : List α} {o : Obj}
end
end Kd
section
variable {P : Program} {ops : Array Oper} {rest : List Oper} {o : Oper} {a : Act} {Q : Exit → Act → World → Prop}
end
namespace Kd
section
variable {α : Type} {enc : α → Value} {h1 : ∀ x, (enc x).oneCell' = true} {e base g n cap : Nat} {ok : Nat → Prop} {W : World} {xs : List α}
end
end Kd
section
variable {P : Program} {ops : Array Oper} {rest : List Oper} {o : Oper} {a : Act} {Q : Exit → Act → World → Prop}
end
namespace Kd
section
variable {α : Type} {enc : α → Value} {h1 : ∀ x, (enc x).oneCell' = true} {e base g n cap : Nat} {ok : Nat → Prop} {W : World} {xs : List α}
end
end Kd
section
variable {P : Program} {ops : Array Oper} {rest : List Oper} {o : Oper} {a : Act} {Q : Exit → Act → World → Prop} {W : World}
end
section
variable {P : Program} {ops : Array Oper} {o : Oper} {a : Act} {Q : Exit → Act → World → Prop} {Kc : Act → World → Prop}
namespace Kd
variable {α : Type}
end Kd
end
inductive Vals (P : Program) (tmps : Array Value) (w : World) : List ResultVar → List Value → Prop where
  | nil : Vals P tmps w [] []
  | tmp {u : Tmp} {rs : List ResultVar} {vs : List Value} (h : Vals P tmps w rs vs) : Vals P tmps w (.tmp u :: rs) (tmps.getD u undef :: vs)
  | cell {p : Tmp} {ty : TypeId} {rs : List ResultVar} {vs : List Value} (g : Nat) (t : TypeId) (cs : Array Value) (fr : Nat × Nat) (d : TypeDesc)
      (hp : tmps.getD p undef = .pointer (some ⟨g, 0, none⟩)) (hg : w.heap[g]? = some (.cells cs t fr))
      (hu : P.underlying ty = some d) (hd : (match d with | .struct _ | .array _ _ => true | _ => false) = true) (hi : (P.info? ty).map (·.size) = some cs.size)
      (h : Vals P tmps w rs vs) : Vals P tmps w (.cell p ty :: rs) (.agg cs :: vs)
section
variable {P : Program} {tmps : Array Value} {w : World}
theorem vals_run {rs : List ResultVar} {vs : List Value} (hv : Vals P tmps w rs vs) (f : ResultVar → Sem Value) (hf : ∀ u, f (.tmp u) = pure (tmps.getD u undef)) (hc : ∀ a t, f (.cell a t) = (do loadVar t (← asAddr (tmps.getD a undef)))) :
    (rs.mapM f).run P w = .ok vs w := by
  induction hv with
  | nil => simp
  | tmp h ih => simp [List.mapM_cons, hf, ih]
  | cell g t cs fr d hp hg hu hd hi h ih =>
    rw [List.mapM_cons, hc, hp]
    simp [asAddr, run_loadVar_row w g t _ cs fr d hg hu hd hi, ih]
theorem results_single {fn : Func} {r : ResultVar} {v : Value} (h : fn.results = #[r]) (hv : Vals P tmps w [r] [v]) : (results fn tmps).run P w = .ok v w := by
  unfold results
  rw [show fn.results = [r].toArray from h, List.mapM_toArray]
  simp only [Sem.run_bind, Sem.run_map]
  rw [vals_run hv]
  · simp
  · intro u
    rfl
  · intro a t
    rfl
end
namespace Kd
section
variable {P : Program} {α : Type}
end
section
variable {P : Program} {ops : Array Oper} {rest : List Oper} {o : Oper} {a : Act} {Q : Exit → Act → World → Prop} {Kc : Act → World → Prop} {α : Type}
end
end Kd

end Go.Proofs.YtgaboenipiojoaaGreatDoorW.PrintWords
end

section
/-
  PRINTED WORDS, second file: A REGION THAT DRAWS ITS ORDER, WALKED BY HAND, where its last store writes what its own loads read ('x.f = append(x.f, f(i))'). Plain theorems; no macro, no elab. A claim may hold it (turn the namespace's name).
  A load may be taken first in every world that meets S; behind the operations of ds nothing is shown; sound because each of ds waits for what is taken (Region.lastB). The kernel checks it.
  By an AI agent of Go's test side, Mon Nov 16 2026. No person has read it.
-/
namespace Go.Proofs.YtgaboenipiojoaaGreatDoorW.PrintLast

section
variable {P : Program} {ops : Array Oper} {Q : Exit → Act → World → Prop} {md : Region.Mode} {S : World → Prop} {ds : List Nat}

/-- Operation d waits for operation i, by a chain of at most 'fuel' edges. -/
def Region.reachB (md : Region.Mode) (ops : Array Oper) (i : Nat) : Nat → Nat → Bool
  | 0, _ => false
  | fuel + 1, d => match ops[d]? with
    | some o => o.after.any fun e => Region.binds md e && (e.on == i || Region.reachB md ops i fuel e.on)
    | none => false

/-- Each of ds that has not come up yet waits for number i. -/
def Region.lastB (md : Region.Mode) (ops : Array Oper) (listed : Array Bool) (ds : List Nat) (i : Nat) : Bool :=
  ds.all fun d => listed.getD d true || Region.reachB md ops i ops.size d

def ListedClosed (md : Region.Mode) (ops : Array Oper) (listed : Array Bool) : Prop :=
  ∀ j oj, ops[j]? = some oj → listed.getD j false = true → ∀ e ∈ oj.after, Region.binds md e = true → listed.getD e.on false = true

theorem ListedClosed.set {listed : Array Bool} {i : Nat} (h : ListedClosed md ops listed) (hi : i ∈ Region.ready md ops listed) : ListedClosed md ops (listed.setIfInBounds i true) := by
  obtain ⟨_, oi, hoi, hall⟩ := mem_ready.1 hi
  intro j oj hj hl e he hb
  by_cases hij : i = j
  · subst hij
    have : oj = oi := Option.some.inj (hj.symm.trans hoi)
    subst this
    exact getD_set_true (hall e he hb)
  · rw [getD_set_ne false hij] at hl
    exact getD_set_true (h j oj hj hl e he hb)

/-- Whatever order is picked from here on, AND 'S' HOLDS BEHIND EVERY OPERATION THAT IS CARRIED OUT, those of ds apart. -/
def wpAnyLast (P : Program) (md : Region.Mode) (ops : Array Oper) (Q : Exit → Act → World → Prop) (S : World → Prop) (ds : List Nat) : Nat → Array Bool → Act → World → Prop
  | 0, listed, a, w => Region.ready md ops listed = [] ∧ Q .normal a w
  | fuel + 1, listed, a, w =>
    (Region.ready md ops listed = [] → Q .normal a w) ∧
    ∀ i ∈ Region.ready md ops listed, wpOp P ops Q i (fun a' w' => (i ∉ ds → S w → S w') ∧ wpAnyLast P md ops Q S ds fuel (listed.setIfInBounds i true) a' w') a w

theorem wpAnyLast_all {rs : List Nat} {fuel : Nat} {listed : Array Bool} {a : Act} {w : World} (hr : Region.ready md ops listed = rs) (hne : rs ≠ [])
    (h : ∀ i ∈ rs, wpOp P ops Q i (fun a' w' => (i ∉ ds → S w → S w') ∧ wpAnyLast P md ops Q S ds fuel (listed.setIfInBounds i true) a' w') a w) : wpAnyLast P md ops Q S ds (fuel + 1) listed a w :=
  ⟨fun h0 => absurd (hr ▸ h0) hne, hr ▸ h⟩

end

section
variable {P : Program} {ops : Array Oper} {Q : Exit → Act → World → Prop} {md : Region.Mode} {S : World → Prop} {ds : List Nat}

def AllReadyL (P : Program) (md : Region.Mode) (ops : Array Oper) (Q : Exit → Act → World → Prop) (S : World → Prop) (ds : List Nat) (fuel : Nat) (listed : Array Bool) (a : Act) (w : World) (rs : List Nat) : Prop :=
  ∀ i ∈ rs, wpOp P ops Q i (fun a' w' => (i ∉ ds → S w → S w') ∧ wpAnyLast P md ops Q S ds fuel (listed.setIfInBounds i true) a' w') a w
theorem AllReadyL.nil {fuel : Nat} {listed : Array Bool} {a : Act} {w : World} : AllReadyL P md ops Q S ds fuel listed a w [] := fun _ h => by cases h
theorem AllReadyL.cons {fuel : Nat} {listed : Array Bool} {a : Act} {w : World} {i : Nat} {o : Oper} {rs : List Nat} (ho : ops[i]? = some o) (hd : i ∉ ds)
    (h : ∀ K' : Act → World → Prop, Shut (∀ a w, S w → (S w → wpAnyLast P md ops Q S ds fuel (listed.setIfInBounds i true) a w) → K' a w) → if Region.wanted o (yielded ops a.tmps) = true then Oper.wp P o a w K' Q else K' (a.put o.dst undef) w)
    (hs : AllReadyL P md ops Q S ds fuel listed a w rs) : AllReadyL P md ops Q S ds fuel listed a w (i :: rs) := fun j hj => by
  rcases List.mem_cons.1 hj with rfl | hj
  · exact wpOp_step ho (fun K' hK => h K' (fun a w hS hW => hK a w ⟨fun _ _ => hS, hW hS⟩))
  · exact hs j hj
theorem wpAnyLast_ready {rs : List Nat} {fuel : Nat} {listed : Array Bool} {a : Act} {w : World} (hr : Region.ready md ops listed = rs) (hne : rs ≠ [])
    (h : AllReadyL P md ops Q S ds fuel listed a w rs) : wpAnyLast P md ops Q S ds (fuel + 1) listed a w := wpAnyLast_all hr hne h
def readyB (md : Region.Mode) (ops : Array Oper) (l l' : Array Bool) (i : Nat) : Bool := (Region.ready md ops l == [i]) && (l.setIfInBounds i true == l')
/-- One operation alone may come up now (a call, a build, an append ..): it is run, S is shown behind it. -/
theorem one_ {i : Nat} {N : Option Tmp} {oi : Oper} {fuel : Nat} {l : Array Bool} {a : Act} {w : World} (l' : Array Bool) (hi : ops[i]? = some oi) (hN : oi.dst = N) (hc : readyB md ops l l' i = true) (hd : i ∉ ds)
    (h : ∀ K : Act → World → Prop, Shut (∀ a' w', S w' → (S w' → wpAnyLast P md ops Q S ds fuel l' a' w') → K a' w') → if Region.wanted oi (yielded ops a.tmps) = true then Oper.wp P oi a w K Q else K (a.put N undef) w) :
    wpAnyLast P md ops Q S ds (fuel + 1) l a w := by
  subst hN
  simp only [readyB, Bool.and_eq_true, beq_iff_eq] at hc
  obtain ⟨h1, h2⟩ := hc
  subst h2
  exact wpAnyLast_ready h1 (by simp) (AllReadyL.cons hi hd (fun K hK => h K hK) AllReadyL.nil)
theorem two_ {i j : Nat} {Ni Nj : Option Tmp} {oi oj : Oper} {fuel : Nat} {l : Array Bool} {a : Act} {w : World} (li lj : Array Bool) (hi : ops[i]? = some oi) (hj : ops[j]? = some oj) (hNi : oi.dst = Ni) (hNj : oj.dst = Nj)
    (hc : (Region.ready md ops l == [i, j] && l.setIfInBounds i true == li && l.setIfInBounds j true == lj) = true) (hdi : i ∉ ds) (hdj : j ∉ ds)
    (h1 : ∀ K : Act → World → Prop, Shut (∀ a' w', S w' → (S w' → wpAnyLast P md ops Q S ds fuel li a' w') → K a' w') → if Region.wanted oi (yielded ops a.tmps) = true then Oper.wp P oi a w K Q else K (a.put Ni undef) w)
    (h2 : ∀ K : Act → World → Prop, Shut (∀ a' w', S w' → (S w' → wpAnyLast P md ops Q S ds fuel lj a' w') → K a' w') → if Region.wanted oj (yielded ops a.tmps) = true then Oper.wp P oj a w K Q else K (a.put Nj undef) w) :
    wpAnyLast P md ops Q S ds (fuel + 1) l a w := by
  subst hNi
  subst hNj
  simp only [Bool.and_eq_true, beq_iff_eq] at hc
  obtain ⟨⟨h3, h4⟩, h5⟩ := hc
  subst h4
  subst h5
  exact wpAnyLast_ready h3 (by simp) (AllReadyL.cons hi hdi (fun K hK => h1 K hK) (AllReadyL.cons hj hdj (fun K hK => h2 K hK) AllReadyL.nil))
theorem three_ {i j k : Nat} {Ni Nj Nk : Option Tmp} {oi oj ok : Oper} {fuel : Nat} {l : Array Bool} {a : Act} {w : World} (li lj lk : Array Bool) (hi : ops[i]? = some oi) (hj : ops[j]? = some oj) (hk : ops[k]? = some ok) (hNi : oi.dst = Ni) (hNj : oj.dst = Nj) (hNk : ok.dst = Nk)
    (hc : (Region.ready md ops l == [i, j, k] && l.setIfInBounds i true == li && l.setIfInBounds j true == lj && l.setIfInBounds k true == lk) = true) (hdi : i ∉ ds) (hdj : j ∉ ds) (hdk : k ∉ ds)
    (h1 : ∀ K : Act → World → Prop, Shut (∀ a' w', S w' → (S w' → wpAnyLast P md ops Q S ds fuel li a' w') → K a' w') → if Region.wanted oi (yielded ops a.tmps) = true then Oper.wp P oi a w K Q else K (a.put Ni undef) w)
    (h2 : ∀ K : Act → World → Prop, Shut (∀ a' w', S w' → (S w' → wpAnyLast P md ops Q S ds fuel lj a' w') → K a' w') → if Region.wanted oj (yielded ops a.tmps) = true then Oper.wp P oj a w K Q else K (a.put Nj undef) w)
    (h3 : ∀ K : Act → World → Prop, Shut (∀ a' w', S w' → (S w' → wpAnyLast P md ops Q S ds fuel lk a' w') → K a' w') → if Region.wanted ok (yielded ops a.tmps) = true then Oper.wp P ok a w K Q else K (a.put Nk undef) w) :
    wpAnyLast P md ops Q S ds (fuel + 1) l a w := by
  subst hNi
  subst hNj
  subst hNk
  simp only [Bool.and_eq_true, beq_iff_eq] at hc
  obtain ⟨⟨⟨h4, h5⟩, h6⟩, h7⟩ := hc
  subst h5
  subst h6
  subst h7
  exact wpAnyLast_ready h4 (by simp) (AllReadyL.cons hi hdi (fun K hK => h1 K hK) (AllReadyL.cons hj hdj (fun K hK => h2 K hK) (AllReadyL.cons hk hdk (fun K hK => h3 K hK) AllReadyL.nil)))
/-- The act with some destinations filled. -/
def putAll : Act → List (Tmp × Value) → Act
  | a, [] => a
  | a, (n, v) :: r => putAll (a.put (some n) v) r
/-- What follows, once: s the values that the orders leave, F what is known of them and of the world. -/
theorem join_ {σ : Type} {fuel : Nat} {l : Array Bool} {a : Act} {w : World} (fuel' : Nat) (l' : Array Bool) (ns : σ → List (Tmp × Value)) (F : σ → World → Prop)
    (hcont : ∀ s w', F s w' → wpAnyLast P md ops Q S ds fuel' l' (putAll a (ns s)) w')
    (h : (∀ s w', F s w' → wpAnyLast P md ops Q S ds fuel' l' (putAll a (ns s)) w') → wpAnyLast P md ops Q S ds fuel l a w) : wpAnyLast P md ops Q S ds fuel l a w := h hcont
end
end Go.Proofs.YtgaboenipiojoaaGreatDoorW.PrintLast
end

section
namespace Go.Proofs.YtgaboenipiojoaaGreatDoorW.PrintLast
open Go.Proofs.YtgaboenipiojoaaGreatDoorW.PrintWords (Aside0)
section
variable {md : Region.Mode} {ops : Array Oper} {T : Bool × List (List Nat × List Nat)} {l l' li lj lk : Array Bool} {ds : List Nat} {i j k : Nat}
/-- What d waits for, as_ bits: told in the table (B), checked in one pass: each bit is a need of d, or a bit of an earlier need's. -/
def upM (B : List Nat) (d : Nat) : List Nat → Nat
  | [] => 0
  | n :: r => (2 ^ n ||| (if n < d then B.getD n 0 else 0)) ||| upM B d r
end
end Go.Proofs.YtgaboenipiojoaaGreatDoorW.PrintLast
end

section
namespace Go.Proofs.YtgaboenipiojoaaGreatDoorW.PrintLast
section
variable {P : Program} {ops : Array Oper} {Q : Exit → Act → World → Prop} {md : Region.Mode} {S : World → Prop} {ds : List Nat} {T : Bool × List (List Nat × List Nat)}
end
end Go.Proofs.YtgaboenipiojoaaGreatDoorW.PrintLast
end

section
namespace Go.Proofs.YtgaboenipiojoaaGreatDoorW.PrintWords
open Go.RowKit
namespace Kd
section
variable {α : Type} {d : Kd α} {e base g o n cap : Nat} {ok okp : Nat → Prop} {w W : World} {v : Value} {xs : List α}
theorem Q_form (h : d.Q e w base ok v xs) (hp : 0 < xs.length) : ∃ g o cap, v = .slice (some ⟨g, o, none⟩) xs.length cap ∧ base ≤ g ∧ g < w.heap.size ∧ ∃ cells, w.heap[g]? = some (.cells cells e (0, 0)) := by
  obtain ⟨h0, inner, hq, hr⟩ := h
  rcases hq.2 with ⟨h1, _⟩ | ⟨g, off, cap, cur, rfl, hb, hh, r⟩
  · omega
  · exact ⟨g, off * d.sz, cap, rfl, hb, blk_lt hh, cur, hh⟩
/-- Element i of such a row: its cells. -/
theorem Q_elem (h : d.Q e W base ok (.slice (some ⟨g, o, none⟩) n cap) xs) (z : α) (i : Int) (h0 : 0 ≤ i) (h1 : i < n) :
    ∃ c, c.length = d.sz ∧ d.M W base (fun k => ok k ∧ k ≠ g) (xs.getD i.toNat z) c ∧ (∀ j u, c[j]? = some u → W.cell? ⟨g, o + i.toNat * d.sz + j, none⟩ = some u) ∧ ∀ j, W.frozen? ⟨g, o + i.toNat * d.sz + j, none⟩ = false := by
  obtain ⟨hn, hnc, hC⟩ := Q_reads' h
  obtain ⟨_, inner, ho, hr⟩ := h
  have hil : i.toNat < xs.length := by omega
  have hseg : i.toNat * d.sz + d.sz ≤ inner.length := by rw [hr.1, ← Nat.succ_mul]; exact Nat.mul_le_mul_right _ hil
  have hM := hr.2 i.toNat _ (List.getElem?_eq_getElem hil)
  refine ⟨(inner.drop (i.toNat * d.sz)).take d.sz, by rw [List.length_take, List.length_drop]; omega, ?_, fun j u hu => ?_, fun j => ?_⟩
  · rw [List.getD_eq_getElem?_getD, List.getElem?_eq_getElem hil]
    exact d.M_mono (fun k hk => ⟨hk.1, fun he => hk.2 (by rw [he]; simp [Value.ownBlock])⟩) hM
  · rw [List.getElem?_take] at hu
    split at hu
    · rw [List.getElem?_drop] at hu
      subst hn
      obtain ⟨ad, he, hc⟩ := q_cells ho (by omega)
      injection he with he
      subst he
      have := hc _ u hu
      rwa [add_at, ← Nat.add_assoc] at this
    · cases hu
  · obtain ⟨_, cells, hc⟩ := q_typed ho g (by simp [Value.ownBlock])
    exact blk_frozen hc _
/-- A run of cells of element i is written: element i is x' then. c: the element's cells before (Q_elem). -/
theorem Q_seg (h : d.Q e W base ok (.slice (some ⟨g, o, none⟩) n cap) xs) (i : Int) (h0 : 0 ≤ i) (h1 : i < n) {c seg : List Value} {j : Nat} (hcl : c.length = d.sz) (hcc : ∀ j u, c[j]? = some u → W.cell? ⟨g, o + i.toNat * d.sz + j, none⟩ = some u)
    (hj : j + seg.length ≤ d.sz) {x' : α} (hM : d.M W base okp x' (c.take j ++ seg ++ c.drop (j + seg.length))) (hokp : ∀ k, okp k → ok k ∧ k ≠ g) :
    d.Q e (W.setCells g (o + i.toNat * d.sz + j) seg) base ok (.slice (some ⟨g, o, none⟩) n cap) (xs.set i.toNat x') ∧ W.grownBy (W.setCells g (o + i.toNat * d.sz + j) seg) (some g) := by
  obtain ⟨hn, hnc, _⟩ := Q_reads' h
  obtain ⟨hok, inner, ho, hr⟩ := h
  have hil : i.toNat < xs.length := by omega
  have hseg : i.toNat * d.sz + d.sz ≤ inner.length := by rw [hr.1, ← Nat.succ_mul]; exact Nat.mul_le_mul_right _ hil
  have hin : inner.length = n * d.sz := by rw [hr.1, hn]
  obtain ⟨ho1, ho2⟩ := ho
  rcases ho2 with ⟨hz, _⟩ | ⟨g', off, cap', cur, hv, hb, hh, hnc', hcm, hcs, ht⟩
  · omega
  injection hv with ha _ hc
  injection ha with ha
  injection ha with hg hoff
  subst hg; subst hc; subst hoff
  have hcap : n * d.sz ≤ cap * d.sz := Nat.mul_le_mul_right _ hnc
  have hcs' : cur.size = off * d.sz + cap * d.sz := by rw [hcs, Nat.add_mul]
  have hfit : off * d.sz + i.toNat * d.sz + j + seg.length ≤ cur.size := by omega
  obtain ⟨cur', h3, h4, h5⟩ := setCells_row seg (off * d.sz + i.toNat * d.sz + j) W cur hh hfit
  obtain ⟨s1, s2, s3, s4⟩ := setCells_same g seg (off * d.sz + i.toNat * d.sz + j) W
  have hfar : ∀ k, k ≠ g → (W.setCells g (off * d.sz + i.toNat * d.sz + j) seg).heap[k]? = W.heap[k]? := fun k hk => setCells_far seg _ k hk
  rw [← hn] at ht
  -- the row's cells are the block's from off on
  have hat : ∀ q, q < n * d.sz → cur.toList[off * d.sz + q]? = inner[q]? := by
    intro q hq
    rw [← ht, List.getElem?_take, if_pos hq, List.getElem?_drop]
  have hcin : ∀ q, q < d.sz → c[q]? = inner[i.toNat * d.sz + q]? := by
    intro q hq
    have hq' : q < c.length := by omega
    have h6 := hcc q _ (List.getElem?_eq_getElem hq')
    rw [cell_of_row W g _ cur e (0, 0) hh] at h6
    rw [List.getElem?_eq_getElem hq', ← h6, ← hat _ (by omega), Array.getElem?_toList, Nat.add_assoc]
  refine ⟨⟨hok, inner.take (i.toNat * d.sz + j) ++ seg ++ inner.drop (i.toNat * d.sz + j + seg.length), ⟨?_, .inr ⟨g, off, cap, cur', by rw [List.length_set, hn], hb, h3, by rw [List.length_set, ← hn]; exact hnc, hcm, by rw [h4, hcs], ?_⟩⟩, ?_⟩,
    ⟨s1, s2, s3, by rw [s4]; exact Nat.le_refl _, fun k _ hk => hfar k (fun he => hk (by rw [he]))⟩⟩
  · rw [List.length_set]
    simp only [List.length_append, List.length_take, List.length_drop]
    rw [hr.1] at hseg ⊢
    omega
  · rw [List.length_set, ← hn]
    apply List.ext_getElem?
    intro q
    rw [List.getElem?_take, List.getElem?_drop, h5]
    rw [seg_get cur.toList seg (off * d.sz + i.toNat * d.sz + j) (by rw [Array.length_toList]; omega) (off * d.sz + q), seg_get inner seg (i.toNat * d.sz + j) (by omega) q]
    by_cases hq : q < n * d.sz
    · rw [if_pos hq]
      by_cases hq1 : q < i.toNat * d.sz + j
      · rw [if_pos (by omega), if_pos hq1, hat q hq]
      · rw [if_neg (by omega), if_neg hq1]
        by_cases hq2 : q < i.toNat * d.sz + j + seg.length
        · rw [if_pos (by omega), if_pos hq2]
          congr 1
          omega
        · rw [if_neg (by omega), if_neg hq2, hat q hq]
    · rw [if_neg hq, if_neg (by omega), if_neg (by omega), List.getElem?_eq_none (by omega)]
  · refine ⟨?_, fun m p hm => ?_⟩
    · rw [List.length_set]
      simp only [List.length_append, List.length_take, List.length_drop]
      rw [hr.1] at hseg ⊢
      omega
    · have hml : m < xs.length := by
        have := (List.getElem?_eq_some_iff.1 hm).1
        rwa [List.length_set] at this
      have hmfit : m * d.sz + d.sz ≤ inner.length := by rw [hr.1, ← Nat.succ_mul]; exact Nat.mul_le_mul_right _ hml
      have hgo : some g = (Value.slice (some ⟨g, off * d.sz, none⟩) n cap).ownBlock := by simp [Value.ownBlock]
      by_cases hmi : m = i.toNat
      · subst hmi
        rw [List.getElem?_set_self (by omega)] at hm
        injection hm with hm
        subst hm
        have hcells : ((inner.take (i.toNat * d.sz + j) ++ seg ++ inner.drop (i.toNat * d.sz + j + seg.length)).drop (i.toNat * d.sz)).take d.sz = c.take j ++ seg ++ c.drop (j + seg.length) := by
          apply List.ext_getElem?
          intro q
          rw [List.getElem?_take, List.getElem?_drop, seg_get inner seg _ (by omega), seg_get c seg j (by omega) q]
          by_cases hq : q < d.sz
          · rw [if_pos hq, hcin q hq]
            by_cases hq1 : q < j
            · rw [if_pos (by omega), if_pos hq1]
            · rw [if_neg (by omega), if_neg hq1]
              by_cases hq2 : q < j + seg.length
              · rw [if_pos (by omega), if_pos hq2]
                congr 1
                omega
              · rw [if_neg (by omega), if_neg hq2]
          · rw [if_neg hq, if_neg (by omega), if_neg (by omega), List.getElem?_eq_none (by omega)]
        rw [hcells]
        refine d.M_mono (fun k hk => ?_) (d.M_move (w1 := W.setCells g (off * d.sz + i.toNat * d.sz + j) seg) (fun k hk => hfar k (hokp k hk).2) hM)
        exact ⟨(hokp k hk).1, fun he => (hokp k hk).2 (by rw [← hgo] at he; injection he)⟩
      · rw [List.getElem?_set_ne (by omega)] at hm
        have hold := hr.2 m p hm
        have hcells : ((inner.take (i.toNat * d.sz + j) ++ seg ++ inner.drop (i.toNat * d.sz + j + seg.length)).drop (m * d.sz)).take d.sz = (inner.drop (m * d.sz)).take d.sz := by
          apply List.ext_getElem?
          intro q
          rw [List.getElem?_take, List.getElem?_take, List.getElem?_drop, List.getElem?_drop, seg_get inner seg _ (by omega)]
          by_cases hq : q < d.sz
          · rw [if_pos hq, if_pos hq]
            rcases Nat.lt_or_gt_of_ne hmi with hlt | hgt
            · have : m * d.sz + d.sz ≤ i.toNat * d.sz := by rw [← Nat.succ_mul]; exact Nat.mul_le_mul_right _ hlt
              rw [if_pos (by omega)]
            · have : i.toNat * d.sz + d.sz ≤ m * d.sz := by rw [← Nat.succ_mul]; exact Nat.mul_le_mul_right _ hgt
              rw [if_neg (by omega), if_neg (by omega)]
          · rw [if_neg hq, if_neg hq]
        rw [hcells]
        refine d.M_move (fun k hk => hfar k (fun he => hk.2 (by rw [he]; exact hgo))) hold
end
section
variable {α : Type} {enc : α → Value} {h1 : ∀ x, (enc x).oneCell' = true} {e base g o n cap : Nat} {ok : Nat → Prop} {W : World} {xs : List α}
theorem Q_cell (d : α) (h : (scalar enc h1).Q e W base ok (.slice (some ⟨g, o, none⟩) n cap) xs) (i : Int) (h0 : 0 ≤ i) (hi : i < n) : W.cell? ⟨g, o + i.toNat, none⟩ = some (enc (rdOf d xs i)) ∧ W.frozen? ⟨g, o + i.toNat, none⟩ = false := by
  obtain ⟨c, _, hM, hcc, hf⟩ := Q_elem h d i h0 hi
  have hM' : c = [enc (xs.getD i.toNat d)] := hM
  subst hM'
  have h2 := hcc 0 _ rfl
  have h3 := hf 0
  rw [show (scalar enc h1).sz = 1 from rfl, Nat.mul_one, Nat.add_zero] at h2 h3
  exact ⟨h2, h3⟩
theorem Q_putg (h : (scalar enc h1).Q e W base ok (.slice (some ⟨g, o, none⟩) n cap) xs) (i : Int) (h0 : 0 ≤ i) (hi : i < n) (x : α) : (scalar enc h1).Q e (W.setCell ⟨g, o + i.toNat, none⟩ (enc x)) base ok (.slice (some ⟨g, o, none⟩) n cap) (xs.set i.toNat x) ∧ W.grownBy (W.setCell ⟨g, o + i.toNat, none⟩ (enc x)) (some g) := by
  have hp : 0 < xs.length := by have := (Q_reads' h).1; omega
  obtain ⟨c, hcl, _, hcc, _⟩ := Q_elem h (xs[0]'hp) i h0 hi
  have h2 := Q_seg h i h0 hi (c := c) (seg := [enc x]) (j := 0) (okp := fun _ => False) (x' := x) hcl hcc (Nat.le_refl 1) (by
    have hl : c.length = 1 := hcl
    show c.take 0 ++ [enc x] ++ c.drop (0 + 1) = [enc x]
    rw [List.drop_eq_nil_of_le (by omega)]
    rfl) (fun _ hk => hk.elim)
  rw [show (scalar enc h1).sz = 1 from rfl, Nat.mul_one, Nat.add_zero] at h2
  exact h2
end
end Kd
end Go.Proofs.YtgaboenipiojoaaGreatDoorW.PrintWords
end

section
namespace Go.Proofs.YtgaboenipiojoaaGreatDoorW.PrintWords
open Go.RowKit
namespace Kd
/-- An element with its index: its blocks are those that f gives to it. -/
def tag {α : Type} (f : Nat → Nat) (d : Kd α) : Kd (α × Nat) where
  sz := d.sz
  E := d.E
  K := fun w x cs => d.K w x.1 cs
  M := fun w base ok x cs => d.M w base (fun k => ok k ∧ f k = x.2) x.1 cs
  K_len := fun h => d.K_len h
  K_one := fun h => d.K_one h
  K_below := fun hb h => d.K_below hb h
  K_of_M := fun h => d.K_of_M h
  M_mono := fun hok h => d.M_mono (fun k hk => ⟨hok k hk.1, hk.2⟩) h
  M_bound := fun h => d.M_mono (fun _ hk => ⟨⟨hk.1.1, hk.2⟩, hk.1.2⟩) (d.M_bound h)
  M_move := fun hm h => d.M_move (fun k hk => hm k hk.1) h
  M_lower := fun hb h => d.M_lower hb h
/-- The cells themselves. -/
def raw (sz : Nat) : Kd (List Value) where
  sz := sz
  E := []
  K := fun _ x cs => cs = x ∧ cs.length = sz ∧ ∀ u ∈ cs, u.oneCell' = true
  M := fun _ _ _ x cs => cs = x ∧ cs.length = sz ∧ ∀ u ∈ cs, u.oneCell' = true
  K_len := fun h => h.2.1
  K_one := fun h => h.2.2
  K_below := fun _ h => h
  K_of_M := fun h => h
  M_mono := fun _ h => h
  M_bound := fun h => h
  M_move := fun _ h => h
  M_lower := fun _ h => h
/-- A row of elements (type e) of the call's own, no two of which lead to one block. -/
def S {α : Type} (d : Kd α) (e : Nat) (w : World) (base : Nat) (ok : Nat → Prop) (v : Value) (xs : List α) : Prop := ∃ f, (tag f d).R e w base ok v xs.zipIdx
section
variable {α β : Type} {d : Kd α} {d' : Kd β} {e e' : Nat} {w w1 W : World} {base b : Nat} {ok ok' okv oku : Nat → Prop} {u v : Value} {xs : List α} {ys : List β}
end
section
variable {α β : Type} {d : Kd α} {d' : Kd β} {e e' g : Nat} {w w1 W : World} {base b : Nat} {ok ok' okv oku : Nat → Prop} {u v : Value} {xs : List α} {ys : List β}
end
section
variable {P : Program} {ops : Array Oper} {rest : List Oper} {o : Oper} {a : Act} {Q : Exit → Act → World → Prop} {Kc : Act → World → Prop} {α : Type}
end
/-- Element i is these cells; the others are d's. -/
def gap {α : Type} (f : Nat → Nat) (d : Kd α) (i : Nat) (c : List Value) : Kd (α × Nat) where
  sz := d.sz
  E := d.E
  K := fun w x cs => (x.2 = i → cs = c ∧ cs.length = d.sz ∧ ∀ u ∈ cs, u.oneCell' = true) ∧ (x.2 ≠ i → d.K w x.1 cs)
  M := fun w base ok x cs => (x.2 = i → cs = c ∧ cs.length = d.sz ∧ ∀ u ∈ cs, u.oneCell' = true) ∧ (x.2 ≠ i → d.M w base (fun k => ok k ∧ f k = x.2) x.1 cs)
  K_len := fun {w x cs} h => by
    by_cases hx : x.2 = i
    · exact (h.1 hx).2.1
    · exact d.K_len (h.2 hx)
  K_one := fun {w x cs} h => by
    by_cases hx : x.2 = i
    · exact (h.1 hx).2.2
    · exact d.K_one (h.2 hx)
  K_below := fun hb h => ⟨h.1, fun hx => d.K_below hb (h.2 hx)⟩
  K_of_M := fun h => ⟨h.1, fun hx => d.K_of_M (h.2 hx)⟩
  M_mono := fun hok h => ⟨h.1, fun hx => d.M_mono (fun k hk => ⟨hok k hk.1, hk.2⟩) (h.2 hx)⟩
  M_bound := fun h => ⟨h.1, fun hx => d.M_mono (fun _ hk => ⟨⟨hk.1.1, hk.2⟩, hk.1.2⟩) (d.M_bound (h.2 hx))⟩
  M_move := fun hm h => ⟨h.1, fun hx => d.M_move (fun k hk => hm k hk.1) (h.2 hx)⟩
  M_lower := fun hb h => ⟨h.1, fun hx => d.M_lower hb (h.2 hx)⟩
def H {α : Type} (d : Kd α) (e : Nat) (w : World) (base : Nat) (ok : Nat → Prop) (v : Value) (xs : List α) (i : Int) (oki : Nat → Prop) (c : List Value) : Prop :=
  (∀ k, oki k → ok k) ∧ ∃ f, (gap f d i.toNat c).R e w base (fun k => ok k ∧ ¬ oki k) v xs.zipIdx
section
variable {α β : Type} {d : Kd α} {e e' g n cap : Nat} {w w1 W : World} {base : Nat} {ok ok' oki okp : Nat → Prop} {u v : Value} {xs : List α} {i : Int} {c : List Value}
end
section
variable {P : Program} {ops : Array Oper} {rest : List Oper} {o : Oper} {a : Act} {Q : Exit → Act → World → Prop} {α : Type}
end
end Kd
end Go.Proofs.YtgaboenipiojoaaGreatDoorW.PrintWords
end

section
namespace Go.Proofs.YtgaboenipiojoaaGreatDoorW.PrintWords
open Go.RowKit
namespace Kd
section
variable {α : Type} {n : Nat} {d : Kd α} {hs : 0 < d.sz} {w : World} {base : Nat} {ok : Nat → Prop} {xs : List α} {cs : List Value}
end
section
variable {α : Type} {n : Nat} {enc : α → Value} {h1 : ∀ x, (enc x).oneCell' = true} {hs : 0 < (scalar enc h1).sz} {w : World} {base : Nat} {ok : Nat → Prop} {xs : List α} {cs : List Value}
end
end Kd
end Go.Proofs.YtgaboenipiojoaaGreatDoorW.PrintWords
end

section
namespace Go.Proofs.YtgaboenipiojoaaGreatDoorW.PrintWords
open Go.RowKit
section
variable {P : Program}
end
namespace Kd
section
variable {P : Program} {ops : Array Oper} {rest : List Oper} {o : Oper} {a : Act} {Q : Exit → Act → World → Prop} {Kc : Act → World → Prop} {α : Type}
end
section
variable {α : Type} {d : Kd α} {e : Nat} {w : World} {base : Nat} {ok : Nat → Prop} {v : Value} {xs : List α}
end
section
variable {P : Program} {ops : Array Oper} {rest : List Oper} {o : Oper} {a : Act} {Q : Exit → Act → World → Prop} {Kc : Act → World → Prop} {α : Type}
end
end Kd
end Go.Proofs.YtgaboenipiojoaaGreatDoorW.PrintWords
end

section
namespace Go.Proofs.YtgaboenipiojoaaGreatDoorW.PrintWords
open Go.RowKit
namespace Kd
/-- What a kind reads lies in the blocks: nothing else of the world is looked at. -/
structure Heap {α : Type} (d : Kd α) : Prop where
  K : ∀ {w w1 : World} {x : α} {cs : List Value}, (∀ k, k < w.heap.size → w1.heap[k]? = w.heap[k]?) → d.K w x cs → d.K w1 x cs
theorem cell_heap {w w1 : World} (hb : ∀ k, k < w.heap.size → w1.heap[k]? = w.heap[k]?) {a : Addr} {v : Value} (h : w.cell? a = some v) : w1.cell? a = some v := by
  have := hb a.block (World.block_lt_of_cell? w a h)
  simpa [World.cell?, this] using h
theorem Heap.C {α : Type} {d : Kd α} (hd : Heap d) {w w1 : World} {A : Option Addr} {n : Nat} {xs : List α} (hb : ∀ k, k < w.heap.size → w1.heap[k]? = w.heap[k]?) (h : d.C w A n xs) : d.C w1 A n xs :=
  ⟨h.1, h.2.1, fun hn => by
    obtain ⟨ad, e, hc⟩ := h.2.2 hn
    refine ⟨ad, e, fun j p hj => ?_⟩
    obtain ⟨c, hs, hr, hcell⟩ := hc j p hj
    exact ⟨c, hs, hd.K hb hr, fun i u hu => cell_heap hb (hcell i u hu)⟩⟩
section
variable {α : Type} {d : Kd α} {e base g n c : Nat} {ok : Nat → Prop} {w w0 W : World} {A : Option Addr} {xs : List α}
end
end Kd
end Go.Proofs.YtgaboenipiojoaaGreatDoorW.PrintWords
end

section
namespace Go.Proofs.YtgaboenipiojoaaGreatDoorW.PrintWords
open Go.RowKit
def Kept (w W : World) (S : Nat → Prop) : Prop := w.heap.size ≤ W.heap.size ∧ ∀ i, i < w.heap.size → ¬ S i → W.heap[i]? = w.heap[i]?
section
variable {w W W2 : World} {S S2 S' : Nat → Prop}
theorem Kept.refl (w : World) (S : Nat → Prop) : Kept w w S := ⟨Nat.le_refl _, fun _ _ _ => rfl⟩
theorem Kept.of_below (h : Below w.heap.size w W) (S : Nat → Prop) : Kept w W S := ⟨h.size, fun i hi _ => h.block i hi⟩
theorem Kept.mono (h : Kept w W S) (hs : ∀ k, S k → S' k) : Kept w W S' := ⟨h.1, fun i hi hn => h.2 i hi (fun hk => hn (hs i hk))⟩
theorem Kept.then_ (h : Kept w W S) (k : Kept W W2 S2) (hs : ∀ k, S2 k → S k ∨ w.heap.size ≤ k) : Kept w W2 S :=
  ⟨Nat.le_trans h.1 k.1, fun i hi hn => (k.2 i (Nat.lt_of_lt_of_le hi h.1) (fun h2 => (hs i h2).elim hn (fun h3 => by omega))).trans (h.2 i hi hn)⟩
theorem Kept.of_grown {row : Option Nat} (hg : W.grownBy W2 row) (h : Kept w W S) (hr : ∀ k, row = some k → S k ∨ w.heap.size ≤ k) : Kept w W2 S :=
  h.then_ (S2 := fun k => row = some k) ⟨hg.size, fun i hi hn => hg.block i hi (fun he => hn he.symm)⟩ hr
theorem Kept.below (h : Kept w W S) (hb : Below W.heap.size W W2) : Kept w W2 S := h.then_ (Kept.of_below hb (fun _ => False)) (fun _ hk => hk.elim)
theorem Kept.alloc (h : Kept w W S) (o : Obj) : Kept w (W.alloc o) S := h.below (below_alloc (Below.refl _ _) o)
theorem Kept.drew (h : Kept w W S) : Kept w W.drew S := h
theorem Kept.drewN (h : Kept w W S) (m : Nat) : Kept w (W.drewN m) S := h
theorem Kept.setCell (h : Kept w W S) {p : Addr} (hp : S p.block ∨ w.heap.size ≤ p.block) (u : Value) : Kept w (W.setCell p u) S :=
  h.then_ (S2 := fun k => k = p.block) ⟨by simp [World.setCell], fun i _ hn => Below.heap_setCell W p u i hn⟩ (fun k hk => by rw [hk]; exact hp)
/-- Beside a state: what was written is new since. -/
theorem Kept.keep {g : Nat} (h : KeepBut w W g none) (k : Kept W W2 S2) (hs : ∀ k, S2 k → w.heap.size ≤ k) : KeepBut w W2 g none :=
  ⟨Nat.le_trans h.1 k.1, fun i hi hg hr => (k.2 i (Nat.lt_of_lt_of_le hi h.1) (fun h2 => by have := hs i h2; omega)).trans (h.2 i hi hg hr)⟩
end
namespace Kd
section
variable {α : Type} {d : Kd α} {e base n c : Nat} {ok oki S S2 : Nat → Prop} {w w0 W W1 W2 : World} {v : Value} {A : Option Addr} {xs : List α} {i : Int} {cs : List Value}
end
end Kd
end Go.Proofs.YtgaboenipiojoaaGreatDoorW.PrintWords
end

section
namespace Go.Proofs.YtgaboenipiojoaaGreatDoorW.PrintWords
open Go.RowKit
/-- P holds in W and in every world that has W's blocks of ok. -/
def Foot (P : World → Prop) (W : World) (ok : Nat → Prop) : Prop := ∀ W' : World, (∀ k, ok k → k < W.heap.size → W'.heap[k]? = W.heap[k]?) → P W'
theorem heap_lt {W W1 : World} {k : Nat} (h : W1.heap[k]? = W.heap[k]?) (hlt : k < W.heap.size) : k < W1.heap.size := by
  rw [Array.getElem?_eq_getElem hlt] at h
  exact (Array.getElem?_eq_some_iff.1 h).1
namespace Foot
variable {P Q : World → Prop} {W W1 : World} {ok ok' : Nat → Prop}
theorem now (h : Foot P W ok) : P W := h W (fun _ _ _ => rfl)
theorem mono (h : Foot P W ok) (hok : ∀ k, ok k → ok' k) : Foot P W ok' := fun W' hW => h W' (fun k hk hlt => hW k (hok k hk) hlt)
theorem bound (h : Foot P W ok) : Foot P W (fun k => ok k ∧ k < W.heap.size) := fun W' hW => h W' (fun k hk hlt => hW k ⟨hk, hlt⟩ hlt)
theorem step (h : Foot P W ok) (hm : ∀ k, ok k → k < W.heap.size → W1.heap[k]? = W.heap[k]?) : Foot P W1 ok := fun W' hW => h W' (fun k hk hlt => (hW k hk (heap_lt (hm k hk hlt) hlt)).trans (hm k hk hlt))
theorem imp (h : Foot P W ok) (hi : ∀ W', P W' → Q W') : Foot Q W ok := fun W' hW => hi W' (h W' hW)
/-- Moved, and still elder than what is new since W. -/
theorem old (h : Foot P W ok) (hb : Below W.heap.size W W1) : Foot P W1 (fun k => ok k ∧ k < W.heap.size) := (h.bound).step (fun k _ hlt => hb.block k hlt)
end Foot
namespace Kd
/-- A row that is only read: what it leads to lies in ok. -/
def F {α : Type} (d : Kd α) (W : World) (ok : Nat → Prop) (A : Option Addr) (n : Nat) (xs : List α) : Prop := Foot (fun W => d.C W A n xs) W ok
/-- An element's cells: what they lead to lies in ok. -/
def FK {α : Type} (d : Kd α) (W : World) (ok : Nat → Prop) (x : α) (c : List Value) : Prop := Foot (fun W => d.K W x c) W ok
section
variable {α β : Type} {d : Kd α} {e base n n' cc g N : Nat} {ok ok' okp S : Nat → Prop} {w w0 w1 W W1 : World} {A A' : Option Addr} {u v v1 : Value} {xs : List α} {xs' : List β} {d' : Kd β} {x : α} {c : List Value}
theorem F_now (h : F d W ok A n xs) : d.C W A n xs := Foot.now h
theorem F_mono (h : F d W ok A n xs) (hok : ∀ k, ok k → ok' k) : F d W ok' A n xs := Foot.mono h hok
theorem F_step (h : F d W ok A n xs) (hm : ∀ k, ok k → k < W.heap.size → W1.heap[k]? = W.heap[k]?) : F d W1 ok A n xs := Foot.step h hm
theorem F_below (h : F d W ok A n xs) (hb : Below W.heap.size W W1) : F d W1 ok A n xs := F_step h (fun k _ hlt => hb.block k hlt)
theorem F_grown (h : F d W ok A n xs) {row : Option Nat} (hg : W.grownBy W1 row) (hok : ∀ k, ok k → some k ≠ row) : F d W1 ok A n xs := F_step h (fun k hk hlt => hg.block k hlt (hok k hk))
theorem R_F (h : d.R e W base ok (.slice A n cc) xs) : F d W ok A n xs := fun W' hW => by
  have h2 := R_reads' (R_step h hW)
  rw [h2.1]
  exact h2.2.2
end
end Kd
end Go.Proofs.YtgaboenipiojoaaGreatDoorW.PrintWords
end

section
namespace Go.Proofs.YtgaboenipiojoaaGreatDoorW.PrintWords
open Go.RowKit
namespace Kd
section
variable {α : Type} {d : Kd α} {e base n cc g : Nat} {ok ok' okp S : Nat → Prop} {w w1 W W1 : World} {A : Option Addr} {u v v1 : Value} {xs : List α} {x : α} {c : List Value}
/-- A row of elements (type e) of the call's own; what the elements lead to is only read, and is not this row. -/
def N {α : Type} (d : Kd α) (e : Nat) (w : World) (base : Nat) (ok : Nat → Prop) (v : Value) (xs : List α) : Prop :=
  (∀ k, v.ownBlock = some k → ok k) ∧ ∃ rows : List (List Value), rows.length = xs.length ∧ (raw d.sz).R e w base (fun k => some k = v.ownBlock) v rows ∧ ∀ (j : Nat) (x : α) (c : List Value), xs[j]? = some x → rows[j]? = some c → FK d w (fun k => ok k ∧ some k ≠ v.ownBlock) x c
end
end Kd
end Go.Proofs.YtgaboenipiojoaaGreatDoorW.PrintWords
end

section
namespace Go.Proofs.YtgaboenipiojoaaGreatDoorW.PrintWords
open Go.RowKit
namespace Kd
section
variable {α : Type} {d : Kd α} {W : World} {g n : Nat} {S ok : Nat → Prop} {A : Option Addr} {ad : Addr} {xs : List α}
end
end Kd
end Go.Proofs.YtgaboenipiojoaaGreatDoorW.PrintWords
end

section
namespace Go.Proofs.YtgaboenipiojoaaGreatDoorW.PrintWords
open Go.RowKit
section
variable {w w' u : World} {m B g : Nat} {o : Obj} {row : Option Nat} {S : Nat → Prop} {a : Addr} {v : Value}
end
namespace Kd
section
variable {α : Type} {d : Kd α} {e base n m : Nat} {ok : Nat → Prop} {w w' : World} {v : Value} {A : Option Addr} {xs : List α}
end
end Kd
end Go.Proofs.YtgaboenipiojoaaGreatDoorW.PrintWords
end

section
namespace Go.Proofs.YtgaboenipiojoaaGreatDoorW.PrintWords
open Go.RowKit
section
variable {P : Program} {d : Nat} {xs ys : Array Value} {f : Field} {fs : List Field} {a b : Value} {r s : Bool} {w : World}
end
end Go.Proofs.YtgaboenipiojoaaGreatDoorW.PrintWords
end

section
namespace Go.Proofs.YtgaboenipiojoaaGreatDoorW.PrintWords
/-- One cell an element. -/
theorem Reps.one {α : Type} {R : α → List Value → Prop} {ps : List α} {cs : List Value} {p : α} {v : Value} (hp : R p [v]) (h : Reps R 1 ps cs) : Reps R 1 (p :: ps) (v :: cs) := by
  refine ⟨by simp [h.1], fun j q hq => ?_⟩
  cases j with
  | zero =>
    simp only [List.getElem?_cons_zero, Option.some.injEq] at hq
    subst hq
    simpa using hp
  | succ j =>
    simp only [List.getElem?_cons_succ] at hq
    have h1 := h.2 j q hq
    simpa [Nat.mul_one] using h1
/-- More cells an element: told apart by the cells' list. -/
theorem Reps.front {α : Type} {R : α → List Value → Prop} {size : Nat} {ps : List α} {cs c all : List Value} {p : α} (hp : R p c) (hc : c.length = size) (h : Reps R size ps cs) (ha : c ++ cs = all) : Reps R size (p :: ps) all := by
  subst ha
  refine ⟨by rw [List.length_append, hc, h.1, List.length_cons, Nat.succ_mul, Nat.add_comm], fun j q hq => ?_⟩
  cases j with
  | zero =>
    simp only [List.getElem?_cons_zero, Option.some.injEq] at hq
    subst hq
    rw [Nat.zero_mul, List.drop_zero, List.take_append_of_le_length (by omega), List.take_of_length_le (by omega)]
    exact hp
  | succ j =>
    simp only [List.getElem?_cons_succ] at hq
    have h1 := h.2 j q hq
    rw [Nat.succ_mul, List.drop_append, List.drop_of_length_le (by rw [hc]; exact Nat.le_add_left _ _), List.nil_append, hc, Nat.add_sub_cancel]
    exact h1
theorem Reps.c2 {α : Type} {R : α → List Value → Prop} {ps : List α} {cs : List Value} {p : α} {va vb : Value} (hp : R p [va, vb]) (h : Reps R 2 ps cs) : Reps R 2 (p :: ps) (va :: vb :: cs) := Reps.front hp rfl h rfl
theorem Reps.c3 {α : Type} {R : α → List Value → Prop} {ps : List α} {cs : List Value} {p : α} {va vb vc : Value} (hp : R p [va, vb, vc]) (h : Reps R 3 ps cs) : Reps R 3 (p :: ps) (va :: vb :: vc :: cs) := Reps.front hp rfl h rfl
theorem Reps.c4 {α : Type} {R : α → List Value → Prop} {ps : List α} {cs : List Value} {p : α} {va vb vc vd : Value} (hp : R p [va, vb, vc, vd]) (h : Reps R 4 ps cs) : Reps R 4 (p :: ps) (va :: vb :: vc :: vd :: cs) := Reps.front hp rfl h rfl
theorem Reps.c5 {α : Type} {R : α → List Value → Prop} {ps : List α} {cs : List Value} {p : α} {va vb vc vd ve : Value} (hp : R p [va, vb, vc, vd, ve]) (h : Reps R 5 ps cs) : Reps R 5 (p :: ps) (va :: vb :: vc :: vd :: ve :: cs) := Reps.front hp rfl h rfl
end Go.Proofs.YtgaboenipiojoaaGreatDoorW.PrintWords
end

section
namespace Go.Proofs.YtgaboenipiojoaaGreatDoorW.PrintLast
/-- Number i is listed too. -/
def up (b : Nat → Bool) (i : Nat) : Nat → Bool := fun j => if j = i then true else b j
section
variable {P : Program} {ops : Array Oper} {Q : Exit → Act → World → Prop} {md : Region.Mode} {T : Bool × List (List Nat × List Nat)} {B : List Nat} {O : List Nat} {b : Nat → Bool} {i j n : Nat}
end
end Go.Proofs.YtgaboenipiojoaaGreatDoorW.PrintLast
end

section
namespace Go.Proofs.YtgaboenipiojoaaGreatDoorW.PrintWords
open Go.RowKit
end Go.Proofs.YtgaboenipiojoaaGreatDoorW.PrintWords
namespace Go.Proofs.YtgaboenipiojoaaGreatDoorW.PrintLast
section
variable {ops : Array Oper} {a : Act} {o og : Oper} {g : Nat} {t : Tmp} {u : Bool}
end
end Go.Proofs.YtgaboenipiojoaaGreatDoorW.PrintLast
end

section
namespace Go.Proofs.YtgaboenipiojoaaGreatDoorW.PrintWords
open Go.RowKit
section
variable {P : Program} {ops : Array Oper} {rest : List Oper} {o : Oper} {a : Act} {Q : Exit → Act → World → Prop} {W : World}
end
end Go.Proofs.YtgaboenipiojoaaGreatDoorW.PrintWords
end

section
namespace Go.Proofs.YtgaboenipiojoaaGreatDoorW.PrintWords
open Go.RowKit
namespace Kd
section
variable {α : Type} {d : Kd α} {e base n cap g : Nat} {ok ok' okp : Nat → Prop} {w w1 W : World} {v v1 : Value} {xs ys : List α}
end
section
variable {P : Program} {ops : Array Oper} {rest : List Oper} {o : Oper} {a : Act} {Q : Exit → Act → World → Prop} {Kc : Act → World → Prop} {α : Type}
end
end Kd
end Go.Proofs.YtgaboenipiojoaaGreatDoorW.PrintWords
end

section
namespace Go.Proofs.YtgaboenipiojoaaGreatDoorW.PrintMore
open Go.RowKit Go.Proofs.YtgaboenipiojoaaGreatDoorW.PrintWords
namespace Kd
open Go.Proofs.YtgaboenipiojoaaGreatDoorW.PrintWords.Kd
end Kd

namespace Kd
open Go.Proofs.YtgaboenipiojoaaGreatDoorW.PrintWords.Kd
section
variable {α : Type} {d : Kd α} {e base g N : Nat} {ok : Nat → Prop} {W w1 : World} {u v : Value} {xs : List α}
end
end Kd
/-- 'max' and 'min' of two whole numbers. -/
theorem max2_int (k k' : IntKind) (x y : Int) : Builtin.max2 (.int k x) (.int k' y) = pure (.int k (if x < y then y else x)) := by simp only [Builtin.max2, gt_iff_lt]
theorem min2_int (k k' : IntKind) (x y : Int) : Builtin.min2 (.int k x) (.int k' y) = pure (.int k (if y < x then y else x)) := by simp only [Builtin.min2]
theorem max_two (ats : Array TypeId) (ty : TypeId) (a b : Value) : Builtin.max_ ats ty #[a, b] = (Builtin.max2 a b >>= fun s => pure s) := by simp only [Builtin.max_, List.foldlM_cons, List.foldlM_nil]
theorem min_two (ats : Array TypeId) (ty : TypeId) (a b : Value) : Builtin.min_ ats ty #[a, b] = (Builtin.min2 a b >>= fun s => pure s) := by simp only [Builtin.min_, List.foldlM_cons, List.foldlM_nil]
theorem max_three (ats : Array TypeId) (ty : TypeId) (a b c : Value) : Builtin.max_ ats ty #[a, b, c] = (Builtin.max2 a b >>= fun s => Builtin.max2 s c >>= fun s => pure s) := by simp only [Builtin.max_, List.foldlM_cons, List.foldlM_nil]
theorem min_three (ats : Array TypeId) (ty : TypeId) (a b c : Value) : Builtin.min_ ats ty #[a, b, c] = (Builtin.min2 a b >>= fun s => Builtin.min2 s c >>= fun s => pure s) := by simp only [Builtin.min_, List.foldlM_cons, List.foldlM_nil]
theorem max_four (ats : Array TypeId) (ty : TypeId) (a b c d : Value) : Builtin.max_ ats ty #[a, b, c, d] = (Builtin.max2 a b >>= fun s => Builtin.max2 s c >>= fun s => Builtin.max2 s d >>= fun s => pure s) := by simp only [Builtin.max_, List.foldlM_cons, List.foldlM_nil]
theorem min_four (ats : Array TypeId) (ty : TypeId) (a b c d : Value) : Builtin.min_ ats ty #[a, b, c, d] = (Builtin.min2 a b >>= fun s => Builtin.min2 s c >>= fun s => Builtin.min2 s d >>= fun s => pure s) := by simp only [Builtin.min_, List.foldlM_cons, List.foldlM_nil]
end Go.Proofs.YtgaboenipiojoaaGreatDoorW.PrintMore
namespace Go.Proofs.YtgaboenipiojoaaGreatDoorW.PrintWords
open Go.RowKit
section
variable {P : Program} {ops : Array Oper} {rest : List Oper} {o : Oper} {a : Act} {Q : Exit → Act → World → Prop} {W : World}
end
/-- The greater of two whole numbers, as1_ Go's max tells it. -/
def mx (a b : Int) : Int := if a < b then b else a
namespace Kd
section
variable {α : Type} {d : Kd α} {e base : Nat} {ok : Nat → Prop} {W w1 : World} {v : Value} {xs : List α}
end
section
variable {α : Type} {d : Kd α} {e base g n cap : Nat} {ok oki okp : Nat → Prop} {W : World} {xs : List α} {i : Int} {c : List Value}
end
section
variable {α : Type} {d : Kd α} {e base b b' g N : Nat} {ok ok1 : Nat → Prop} {W W2 w1 : World} {u v : Value} {xs ys : List α} {S : Nat → Prop}
end
end Kd
end Go.Proofs.YtgaboenipiojoaaGreatDoorW.PrintWords
namespace Go.Proofs.YtgaboenipiojoaaGreatDoorW.PrintWords
open Go.RowKit
namespace Kd
/-- A row that is only read, told by its value: its form, its length, what it leads to (in ok). e and base say nothing; they make it as1_ the others are. -/
def V {α : Type} (d : Kd α) (_e : Nat) (W : World) (_base : Nat) (ok : Nat → Prop) (v : Value) (xs : List α) : Prop := ∃ A c, v = .slice A xs.length c ∧ xs.length ≤ c ∧ F d W ok A xs.length xs
section
variable {α β : Type} {d : Kd α} {e base base' n m c g N' lo hi : Nat} {ok ok' S : Nat → Prop} {w W w1 : World} {A : Option Addr} {ad : Addr} {u v v1 : Value} {xs : List α}
theorem V_map (h : V d e W base ok v xs) (hF : ∀ A, F d W ok A xs.length xs → F d w1 ok' A xs.length xs) : V d e w1 base' ok' v xs := by
  obtain ⟨A, c, hv, hl, hf⟩ := h
  exact ⟨A, c, hv, hl, hF A hf⟩
theorem V_at (h : V d e W base ok (.slice A n c) xs) : n = xs.length ∧ n ≤ c ∧ F d W ok A xs.length xs := by
  obtain ⟨A', c', hv, hl, hf⟩ := h
  injection hv with ha hn hc
  subst ha; subst hc
  exact ⟨hn, by rw [hn]; exact hl, hf⟩
theorem V_reads' (h : V d e W base ok (.slice A n c) xs) : n = xs.length ∧ n ≤ c ∧ d.C W A xs.length xs := ⟨(V_at h).1, (V_at h).2.1, F_now (V_at h).2.2⟩
theorem R_V (h : d.R e W base ok v xs) : V d e W base' ok v xs := by
  obtain ⟨A, c, rfl⟩ := R_slice h
  exact ⟨A, c, rfl, (R_reads' h).2.1, R_F h⟩
theorem V_mono (h : V d e W base ok v xs) (hok : ∀ k, ok k → ok' k) : V d e W base ok' v xs := V_map h (fun _ hf => F_mono hf hok)
theorem V_below (h : V d e W base ok v xs) (hb : Below W.heap.size W w1) : V d e w1 base ok v xs := V_map h (fun _ hf => F_below hf hb)
theorem V_grown (h : V d e W base ok v xs) {row : Option Nat} (hg : W.grownBy w1 row) (hok : ∀ k, ok k → some k ≠ row) : V d e w1 base ok v xs := V_map h (fun _ hf => F_grown hf hg hok)
end
end Kd
end Go.Proofs.YtgaboenipiojoaaGreatDoorW.PrintWords
end

section
/- Walks, written by a program of this session (wip/pp): a Go function comes to what the Lean function beside it tells. -/
namespace Go.Proofs.YtgaboenipiojoaaGreatDoor.QAll
open Go.RowKit Go.Proofs.YtgaboenipiojoaaGreatDoorW.PrintWords Go.Proofs.YtgaboenipiojoaaGreatDoorW.PrintLast Go.Proofs.YtgaboenipiojoaaGreatDoorW.PrintMore
attribute [local go_sem] max2_int min2_int max_two min_two max_three min_three max_four min_four
set_option linter.unusedVariables false
set_option linter.unusedSimpArgs false



structure S29 where
 f0 : ByteArray
 f1 : Int
def k29 : Kd S29 := Kd.iso (Kd.pair Kd.string (Kd.int .i64)) (fun x : S29 => (x.f0, x.f1))
theorem k29_mkM (w : World) (base : Nat) (ok : Nat → Prop) (x : S29)  : k29.M w base ok x [.string x.f0, .int .i64 x.f1] := ⟨[.string x.f0], [.int .i64 x.f1], rfl, rfl, rfl⟩
end Go.Proofs.YtgaboenipiojoaaGreatDoor.QAll
end

section
/- Walks, written by a program of this session (wip/pp): a Go function comes to what the Lean function beside it tells. -/
namespace Go.Proofs.YtgaboenipiojoaaGreatDoor.QAll
open Go.RowKit Go.Proofs.YtgaboenipiojoaaGreatDoorW.PrintWords Go.Proofs.YtgaboenipiojoaaGreatDoorW.PrintLast Go.Proofs.YtgaboenipiojoaaGreatDoorW.PrintMore
attribute [local go_sem] max2_int min2_int max_two min_two max_three min_three max_four min_four
set_option linter.unusedVariables false
set_option linter.unusedSimpArgs false

def call_letter.f (a0 : Int) : Option (Bool) := if a0 ≥ 65 then (if a0 ≤ 90 then (some true) else (if a0 ≥ 48 then (some (decide (a0 ≤ 57))) else (some false))) else (if a0 ≥ 48 then (some (decide (a0 ≤ 57))) else (some false))
set_option maxHeartbeats 8000000 in
set_option maxRecDepth 100000 in
theorem call_letter.calls (a0 : Int) (r : Bool) (w : World) (h : call_letter.f a0 = some r) :
  Calls Tryz.prog 79 #[.int .u8 a0] w fun e w' => e = .returned (.bool r) ∧ Drawn0 w w' := by
 have H : (if a0 ≥ 65 then (if a0 ≤ 90 then (some true) else (if a0 ≥ 48 then (some (decide (a0 ≤ 57))) else (some false))) else (if a0 ≥ 48 then (some (decide (a0 ≤ 57))) else (some false))) = some r := h
 clear h
 by_cases c2 : a0 ≥ 65
 ·rw [if_pos c2] at H
  have c2b0 : decide (65 ≤ a0) = true := decide_eq_true c2
  clear c2
  by_cases c3 : a0 ≤ 90
  ·rw [if_pos c3] at H
   have c3b0 : decide (a0 ≤ 90) = true := decide_eq_true c3
   clear c3
   obtain rfl := Option.some.inj H
   go_enter Tryz.func79, Tryz.ntmps79
   go_wp2
   go_ret
   exact ⟨by first | rfl | (simp; done) | (simp [*]; done) | (simp; exact (fun l : List UInt8 => (by cases l <;> rfl : l.isEmpty = !(l != []))) _), by repeat (first | exact Drawn0.refl _ | apply Drawn0.step)⟩
  ·rw [if_neg c3] at H
   have c3b0 : decide (a0 ≤ 90) = false := decide_eq_false c3
   clear c3
   by_cases c4 : a0 ≥ 48
   ·rw [if_pos c4] at H
    have c4b0 : decide (48 ≤ a0) = true := decide_eq_true c4
    clear c4
    obtain rfl := Option.some.inj H
    go_enter Tryz.func79, Tryz.ntmps79
    go_wp2
    go_ret
    exact ⟨by first | rfl | (simp; done) | (simp [*]; done) | (simp; exact (fun l : List UInt8 => (by cases l <;> rfl : l.isEmpty = !(l != []))) _), by repeat (first | exact Drawn0.refl _ | apply Drawn0.step)⟩
   ·rw [if_neg c4] at H
    have c4b0 : decide (48 ≤ a0) = false := decide_eq_false c4
    clear c4
    obtain rfl := Option.some.inj H
    go_enter Tryz.func79, Tryz.ntmps79
    go_wp2
    go_ret
    exact ⟨by first | rfl | (simp; done) | (simp [*]; done) | (simp; exact (fun l : List UInt8 => (by cases l <;> rfl : l.isEmpty = !(l != []))) _), by repeat (first | exact Drawn0.refl _ | apply Drawn0.step)⟩
 ·rw [if_neg c2] at H
  have c2b0 : decide (65 ≤ a0) = false := decide_eq_false c2
  clear c2
  by_cases c5 : a0 ≥ 48
  ·rw [if_pos c5] at H
   have c5b0 : decide (48 ≤ a0) = true := decide_eq_true c5
   clear c5
   obtain rfl := Option.some.inj H
   go_enter Tryz.func79, Tryz.ntmps79
   go_wp2
   go_ret
   exact ⟨by first | rfl | (simp; done) | (simp [*]; done) | (simp; exact (fun l : List UInt8 => (by cases l <;> rfl : l.isEmpty = !(l != []))) _), by repeat (first | exact Drawn0.refl _ | apply Drawn0.step)⟩
  ·rw [if_neg c5] at H
   have c5b0 : decide (48 ≤ a0) = false := decide_eq_false c5
   clear c5
   obtain rfl := Option.some.inj H
   go_enter Tryz.func79, Tryz.ntmps79
   go_wp2
   go_ret
   exact ⟨by first | rfl | (simp; done) | (simp [*]; done) | (simp; exact (fun l : List UInt8 => (by cases l <;> rfl : l.isEmpty = !(l != []))) _), by repeat (first | exact Drawn0.refl _ | apply Drawn0.step)⟩

end Go.Proofs.YtgaboenipiojoaaGreatDoor.QAll
end

section
/- call.Right, walked by hand: it tells whether all bytes of the base are letters or digits, and the lengths and the number are in their ranges, for every call. -/
set_option linter.unusedVariables false
set_option linter.unusedSimpArgs false
namespace Go.Proofs.YtgaboenipiojoaaGreatDoor.QAll
open Go.RowKit Go.Proofs.YtgaboenipiojoaaGreatDoorW.PrintWords Go.Proofs.YtgaboenipiojoaaGreatDoorW.PrintLast Go.Proofs.YtgaboenipiojoaaGreatDoorW.PrintMore

/-- May the byte c stand in a call? -/
def letB (c : Int) : Bool := decide (65 ≤ c ∧ c ≤ 90 ∨ 48 ≤ c ∧ c ≤ 57)
theorem letter_f (c : Int) : call_letter.f c = some (letB c) := by
  unfold call_letter.f letB
  repeat' split
  all_goals (congr 1; first | exact decide_eq_decide.2 (by omega) | (symm; exact decide_eq_true (by omega)) | (symm; exact decide_eq_false (by omega)))
/-- All of the first k bytes are letters or digits. -/
def letsTo (s : ByteArray) (k : Nat) : Prop := ∀ j : Nat, j < k → letB (bt s j) = true
def letsB (s : ByteArray) : Bool := s.data.toList.all fun c => letB c.toNat
theorem bt_data (s : ByteArray) (j : Nat) (h : j < s.size) : bt s j = ((s.data.toList[j]'(by simpa using h)).toNat : Int) := by
  unfold bt
  rw [dif_pos (by simpa using h)]
  rfl
theorem letsB_true {s : ByteArray} (h : letsTo s s.size) : letsB s = true := by
  unfold letsB
  rw [List.all_eq_true]
  intro c hc
  obtain ⟨j, hj, rfl⟩ := List.getElem_of_mem hc
  have hj' : j < s.size := by simpa using hj
  have := h j hj'
  rw [bt_data s j hj'] at this
  exact this
theorem letsB_false {s : ByteArray} (k : Nat) (hk : k < s.size) (h : letB (bt s k) = false) : letsB s = false := by
  unfold letsB
  rw [List.all_eq_false]
  refine ⟨_, List.getElem_mem (by simpa using hk : k < s.data.toList.length), ?_⟩
  rw [bt_data s k hk] at h
  rw [h]
  decide
def rightB (s : ByteArray) (n : Int) : Bool := letsB s && (decide (1 ≤ s.size) && (decide (s.size ≤ 6) && (decide (0 ≤ n) && decide (n ≤ 15))))
def call_Right.f (a0_0 : ByteArray) (a0_1 : Int) : Option Bool := if a0_0.size ≤ 9223372036854775807 then some (rightB a0_0 a0_1) else none

set_option maxHeartbeats 1000000 in
set_option maxRecDepth 100000 in
theorem call_Right.calls (a0_0 : ByteArray) (a0_1 : Int) (r : Bool) (w : World) (h : call_Right.f a0_0 a0_1 = some r) :
    Calls Tryz.prog 45 #[.agg #[.string a0_0, .int .i64 a0_1]] w fun e w' => e = .returned (.bool r) ∧ Below w.heap.size w w' := by
  unfold call_Right.f at h
  split at h
  case isFalse => exact absurd h (by simp)
  rename_i hs
  have HR := Aside0.mk (Option.some.inj h)
  clear h
  have hu29 := Tryz.underlying29
  have kb := fun W => print_bytes (P := Tryz.prog) 9 50 5 Tryz.underlying9 Tryz.underlying50 Tryz.underlying5 a0_0 W
  go_enter Tryz.func45, Tryz.ntmps45
  go_wp2
  go_loopw [9] (fun i wr => ∃ k : Nat, k ≤ a0_0.size ∧ i = .int .i64 k ∧ Aside0 (letsTo a0_0 k) ∧ Aside0 (Below w.heap.size w wr) ∧ (wr.cell? ⟨w.heap.size, 0, none⟩ = some (.string a0_0)) ∧ (wr.cell? ⟨w.heap.size, 1, none⟩ = some (.int .i64 a0_1)) ∧
      Aside0 (∀ j : Nat, j < a0_0.size → wr.cell? ⟨w.heap.size + 1, j, none⟩ = some (.int .u8 (bt a0_0 j)))) (fun i _ => a0_0.size - (intOf i).toNat)
  case atStart =>
    refine ⟨0, Nat.zero_le _, rfl, ⟨fun j hj => absurd hj (by omega)⟩, ⟨?_⟩, ?_, ?_, ⟨?_⟩⟩
    · exact bytes_below ((Below.refl _ _).alloc (Nat.le_refl _) _) (by simp) _ _
    · rw [Lib.bytesWorld_old _ _ _ _ (by simp)]; simp
    · rw [Lib.bytesWorld_old _ _ _ _ (by simp)]; simp
    · intro j hj
      have z := Lib.bytesWorld_cell (w.alloc (Obj.cells #[Value.string a0_0, Value.int IntKind.i64 a0_1] 29)) 5 a0_0 j hj
      have e : (w.alloc (Obj.cells #[Value.string a0_0, Value.int IntKind.i64 a0_1] 29)).heap.size = w.heap.size + 1 := by simp
      rw [e] at z
      rw [z, bt_data a0_0 j hj, List.getD_eq_getElem?_getD, List.getElem?_eq_getElem (by simpa using hj)]
      rfl
  case round =>
    obtain ⟨k, hk, rfl, HL, HB, hc0, hc1, HC⟩ := hrel
    by_cases hlt : k < a0_0.size
    · have hcell := HC.out k hlt
      have hb := bt_range a0_0 k
      have hcb := Aside0.mk hb
      cases hl : letB (bt a0_0 k) with
      | true =>
        have HL1 := Aside0.mk hl
        clear hl hb
        go_wp2_with (go_at_call 79; (with_reducible refine (call_letter.calls (bt a0_0 k) true _ (by rw [letter_f, HL1.out])).mono ?_); rintro e w' ⟨rfl, ⟨nd, rfl⟩⟩)
        go_roundw
        case rel =>
          refine ⟨k + 1, by omega, by go_num, ⟨fun j hj => ?_⟩, ⟨pw_below_drewN HB.out _⟩, hc0, hc1, ⟨HC.out⟩⟩
          by_cases e : j = k
          · subst e; exact HL1.out
          · exact HL.out j (by omega)
        case measure => simp [intOf]; omega
      | false =>
        have HL1 := Aside0.mk hl
        clear hl hb
        go_wp2_with (go_at_call 79; (with_reducible refine (call_letter.calls (bt a0_0 k) false _ (by rw [letter_f, HL1.out])).mono ?_); rintro e w' ⟨rfl, ⟨nd, rfl⟩⟩)
        go_ret
        refine ⟨?_, pw_below_drewN HB.out _⟩
        have e : rightB a0_0 a0_1 = false := by unfold rightB; rw [letsB_false k hlt HL1.out, Bool.false_and]
        rw [← HR.out, e]; rfl
    · obtain rfl : k = a0_0.size := by omega
      have HX := Aside0.mk (show rightB a0_0 a0_1 = (decide (1 ≤ a0_0.size) && (decide (a0_0.size ≤ 6) && (decide (0 ≤ a0_1) && decide (a0_1 ≤ 15)))) by unfold rightB; rw [letsB_true HL.out, Bool.true_and])
      clear HL hk hlt
      by_cases h1 : 1 ≤ a0_0.size
      · by_cases h2 : a0_0.size ≤ 6
        · by_cases h3 : 0 ≤ a0_1
          · by_cases h4 : a0_1 ≤ 15
            · have HE := Aside0.mk (show rightB a0_0 a0_1 = true by rw [HX.out]; simp [h1, h2, h3, h4])
              go_wp2
              go_ret
              exact ⟨by rw [← HR.out, HE.out]; rfl, HB.out⟩
            · have HE := Aside0.mk (show rightB a0_0 a0_1 = false by rw [HX.out]; simp [h1, h2, h3, h4])
              go_wp2
              go_ret
              exact ⟨by rw [← HR.out, HE.out]; rfl, HB.out⟩
          · have HE := Aside0.mk (show rightB a0_0 a0_1 = false by rw [HX.out]; simp [h1, h2, h3])
            go_wp2
            go_ret
            exact ⟨by rw [← HR.out, HE.out]; rfl, HB.out⟩
        · have HE := Aside0.mk (show rightB a0_0 a0_1 = false by rw [HX.out]; simp [h1, h2])
          go_wp2
          go_ret
          exact ⟨by rw [← HR.out, HE.out]; rfl, HB.out⟩
      · have HE := Aside0.mk (show rightB a0_0 a0_1 = false by rw [HX.out]; simp [h1])
        go_wp2
        go_ret
        exact ⟨by rw [← HR.out, HE.out]; rfl, HB.out⟩
end Go.Proofs.YtgaboenipiojoaaGreatDoor.QAll
end

section
/- call.upper, walked by hand: a word with its small letters made great, for every word. -/
set_option linter.unusedVariables false
set_option linter.unusedSimpArgs false
namespace Go.Proofs.YtgaboenipiojoaaGreatDoor.QAll
open Go.RowKit Go.Proofs.YtgaboenipiojoaaGreatDoorW.PrintWords Go.Proofs.YtgaboenipiojoaaGreatDoorW.PrintLast Go.Proofs.YtgaboenipiojoaaGreatDoorW.PrintMore

/-- A small letter made great. -/
def upI (c : Int) : Int := if 97 ≤ c ∧ c ≤ 122 then c - 97 + 65 else c
def upL (s : ByteArray) : List Int := (bytesOf s).map upI
def upperS (s : ByteArray) : ByteArray := strOfNums (upL s)
def call_upper.f (a0 : ByteArray) : Option ByteArray := if a0.size ≤ 9223372036854775807 then some (upperS a0) else none
/-- Behind k rounds: block B holds the first k made great, the others as they were. -/
def UpAt (s : ByteArray) (B k : Nat) (w : World) : Prop := ∃ cur m, w.heap[B]? = some (.cells cur 5 (m, m + 1)) ∧ s.size ≤ m ∧
  ∀ j : Nat, j < s.size → cur[j]? = some (.int .u8 (if j < k then upI (bt s j) else bt s j))
theorem UpAt.cell {s : ByteArray} {B k : Nat} {w : World} (h : UpAt s B k w) (j : Nat) (hj : j < s.size) : w.cell? ⟨B, j, none⟩ = some (.int .u8 (if j < k then upI (bt s j) else bt s j)) := by
  obtain ⟨cur, m, hb, hm, hc⟩ := h
  simp only [World.cell?, hb]
  exact hc j hj
theorem UpAt.frozen {s : ByteArray} {B k : Nat} {w : World} (h : UpAt s B k w) (j : Nat) (hj : j < s.size) : w.frozen? ⟨B, j, none⟩ = false := by
  obtain ⟨cur, m, hb, hm, hc⟩ := h
  simp only [World.frozen?, hb]
  simp
  omega
theorem UpAt.keep {s : ByteArray} {B k : Nat} {w : World} (h : UpAt s B k w) (hk : upI (bt s k) = bt s k) : UpAt s B (k + 1) w := by
  obtain ⟨cur, m, hb, hm, hc⟩ := h
  refine ⟨cur, m, hb, hm, fun j hj => ?_⟩
  rw [hc j hj]
  by_cases e : j = k
  · subst e; rw [if_neg (by omega), if_pos (by omega), hk]
  · by_cases e2 : j < k
    · rw [if_pos e2, if_pos (by omega)]
    · rw [if_neg e2, if_neg (by omega)]
theorem UpAt.store {s : ByteArray} {B k : Nat} {w : World} (h : UpAt s B k w) (hk : k < s.size) (x : Int) (hx : x = upI (bt s k)) : UpAt s B (k + 1) (w.setCell ⟨B, k, none⟩ (.int .u8 x)) := by
  obtain ⟨cur, m, hb, hm, hc⟩ := h
  refine ⟨cur.setIfInBounds k (.int .u8 x), m, ?_, hm, fun j hj => ?_⟩
  · simp [World.setCell, Array.getElem?_modify, hb]
  · rw [Array.getElem?_setIfInBounds]
    have hcj := hc j hj
    by_cases e : k = j
    · subst e
      have : k < cur.size := (Array.getElem?_eq_some_iff.1 hcj).1
      rw [if_pos rfl, if_pos this, if_pos (by omega), hx]
    · rw [if_neg e, hcj]
      by_cases e2 : j < k
      · rw [if_pos e2, if_pos (by omega)]
      · rw [if_neg e2, if_neg (by omega)]
theorem UpAt.new (s : ByteArray) (w : World) : UpAt s w.heap.size 0 (Lib.bytesWorld w 5 s) := by
  refine ⟨_, _, Lib.bytesWorld_at_new w 5 s, ?_, fun j hj => ?_⟩
  · simp [Lib.bytesCells]
  · have h := Lib.bytesWorld_cell w 5 s j hj
    simp only [World.cell?, Lib.bytesWorld_at_new] at h
    rw [if_neg (by omega)]
    have e : (s.data.toList.getD j 0).toNat = bt s j := by
      unfold bt
      rw [dif_pos (by simpa using hj), List.getD_eq_getElem?_getD, List.getElem?_eq_getElem (by simpa using hj)]
      rfl
    rw [← e]
    simpa using h

set_option maxHeartbeats 1000000 in
set_option maxRecDepth 100000 in
theorem call_upper.calls (a0 : ByteArray) (r : ByteArray) (w : World) (h : call_upper.f a0 = some r) :
    Calls Tryz.prog 138 #[.string a0] w fun e w' => e = .returned (.string r) ∧ Below w.heap.size w w' := by
  unfold call_upper.f at h
  split at h
  case isFalse => exact absurd h (by simp)
  rename_i hs
  have HR := Aside0.mk (Option.some.inj h)
  clear h
  have kb := fun W => print_bytes (P := Tryz.prog) 9 50 5 Tryz.underlying9 Tryz.underlying50 Tryz.underlying5 a0 W
  go_enter Tryz.func138, Tryz.ntmps138
  go_wp2
  go_loopw [10] (fun i wr => ∃ k : Nat, k ≤ a0.size ∧ i = .int .i64 k ∧ Aside0 (UpAt a0 w.heap.size k wr) ∧ Aside0 (Below w.heap.size w wr)) (fun i _ => a0.size - (intOf i).toNat)
  case atStart => exact ⟨0, Nat.zero_le _, rfl, ⟨UpAt.new a0 w⟩, ⟨bytes_below (Below.refl _ _) (Nat.le_refl _) _ _⟩⟩
  case round =>
    obtain ⟨k, hk, rfl, HU, HB⟩ := hrel
    by_cases hlt : k < a0.size
    · have hcell := HU.out.cell k hlt
      rw [if_neg (by omega)] at hcell
      have hfz := HU.out.frozen k hlt
      have hb := bt_range a0 k
      by_cases h1 : 97 ≤ bt a0 k
      · by_cases h2 : bt a0 k ≤ 122
        · have HX := Aside0.mk (show bt a0 k - 97 + 65 = upI (bt a0 k) by unfold upI; rw [if_pos ⟨h1, h2⟩])
          go_wp2
          go_roundw
          case rel => exact ⟨k + 1, by omega, by go_num, ⟨HU.out.store hlt _ HX.out⟩, ⟨HB.out.setCell (Nat.le_refl _) _⟩⟩
          case measure => simp [intOf]; omega
        · have HX := Aside0.mk (show upI (bt a0 k) = bt a0 k by unfold upI; rw [if_neg (by omega)])
          go_wp2
          go_roundw
          case rel => exact ⟨k + 1, by omega, by go_num, ⟨HU.out.keep HX.out⟩, ⟨HB.out⟩⟩
          case measure => simp [intOf]; omega
      · have HX := Aside0.mk (show upI (bt a0 k) = bt a0 k by unfold upI; rw [if_neg (by omega)])
        go_wp2
        go_roundw
        case rel => exact ⟨k + 1, by omega, by go_num, ⟨HU.out.keep HX.out⟩, ⟨HB.out⟩⟩
        case measure => simp [intOf]; omega
    · obtain rfl : k = a0.size := by omega
      have hcv := fun (c : Nat) => run_convert_bytes_arg (P := Tryz.prog) wr 50 5 Tryz.underlying50 Tryz.underlying5 w.heap.size 0 a0.size c (upL a0) (by simp [upL]; exact bytesOf_length a0) (fun j hj => by
        have z := HU.out.cell j hj
        rw [if_pos hj] at z
        rw [Nat.zero_add, z]
        unfold upL
        rw [List.getD_eq_getElem?_getD, List.getElem?_map, List.getElem?_eq_getElem (by rw [bytesOf_length]; exact hj)]
        have e : (bytesOf a0)[j]'(by rw [bytesOf_length]; exact hj) = bt a0 j := by
          unfold bt
          rw [dif_pos (by simpa using hj)]
          simp [bytesOf]
          rfl
        rw [e]
        rfl) 9 Tryz.underlying9
      go_wp2
      go_ret
      exact ⟨by rw [← HR.out]; rfl, HB.out⟩
end Go.Proofs.YtgaboenipiojoaaGreatDoor.QAll
end

section
/- What the walks take from the library's shelf, at this program: written by the kit's own tools, the wanted ones picked by a program of this session (wip/pp/shelf.py). -/
namespace Go.Proofs
open Go.Shelf
def Tryz.lays158_ren : Go.Shelf.Ren := ⟨fun | 158 => 15 | 165 => 35 | 166 => 36 | 167 => 37 | 169 => 38 | 230 => 39 | 203 => 43 | 240 => 68 | 241 => 69 | 197 => 70 | 118 => 71 | 168 => 72 | 270 => 73 | 262 => 74 | 276 => 96 | 277 => 97 | 260 => 98 | 242 => 99 | 313 => 100 | 278 => 120 | 274 => 121 | 275 => 122 | n => n, fun | 9 => 9 | 4 => 4 | 3 => 3 | 5 => 5 | 72 => 71 | 0 => 0 | 76 => 75 | 75 => 74 | 107 => 80 | 70 => 69 | 20 => 20 | 37 => 50 | 127 => 112 | 21 => 21 | 105 => 113 | 164 => 139 | 162 => 145 | 203 => 143 | 119 => 131 | 46 => 81 | 139 => 167 | 138 => 166 | 51 => 118 | 160 => 168 | 208 => 195 | 206 => 193 | 80 => 78 | n => n, fun | 13 => 1 | 3 => 4 | 4 => 5 | n => n⟩
theorem Tryz.lays158 : Go.Proofs.Lays.n158 Tryz.prog Tryz.lays158_ren := {
  mixed := by kernel_rfl
  f118 := Tryz.func71.trans (congrArg some (by kernel_rfl))
  f158 := Tryz.func15.trans (congrArg some (by kernel_rfl))
  f165 := Tryz.func35.trans (congrArg some (by kernel_rfl))
  f166 := Tryz.func36.trans (congrArg some (by kernel_rfl))
  f167 := Tryz.func37.trans (congrArg some (by kernel_rfl))
  f168 := Tryz.func72.trans (congrArg some (by kernel_rfl))
  f169 := Tryz.func38.trans (congrArg some (by kernel_rfl))
  f197 := Tryz.func70.trans (congrArg some (by kernel_rfl))
  f203 := Tryz.func43.trans (congrArg some (by kernel_rfl))
  f230 := Tryz.func39.trans (congrArg some (by kernel_rfl))
  f240 := Tryz.func68.trans (congrArg some (by kernel_rfl))
  f241 := Tryz.func69.trans (congrArg some (by kernel_rfl))
  f242 := Tryz.func99.trans (congrArg some (by kernel_rfl))
  f260 := Tryz.func98.trans (congrArg some (by kernel_rfl))
  f262 := Tryz.func74.trans (congrArg some (by kernel_rfl))
  f270 := Tryz.func73.trans (congrArg some (by kernel_rfl))
  f274 := Tryz.func121.trans (congrArg some (by kernel_rfl))
  f275 := Tryz.func122.trans (congrArg some (by kernel_rfl))
  f276 := Tryz.func96.trans (congrArg some (by kernel_rfl))
  f277 := Tryz.func97.trans (congrArg some (by kernel_rfl))
  f278 := Tryz.func120.trans (congrArg some (by kernel_rfl))
  f313 := Tryz.func100.trans (congrArg some (by kernel_rfl))
  t0 := Tryz.underlying0
  a0 := Tryz.isAgg0
  z0 := Tryz.sizeOf0
  v0 := Tryz.zeroValue0
  t3 := Tryz.underlying3
  a3 := Tryz.isAgg3
  z3 := Tryz.sizeOf3
  v3 := Tryz.zeroValue3
  t4 := Tryz.underlying4
  a4 := Tryz.isAgg4
  z4 := Tryz.sizeOf4
  v4 := Tryz.zeroValue4
  t5 := Tryz.underlying5
  a5 := Tryz.isAgg5
  z5 := Tryz.sizeOf5
  v5 := Tryz.zeroValue5
  t9 := Tryz.underlying9
  a9 := Tryz.isAgg9
  z9 := Tryz.sizeOf9
  v9 := Tryz.zeroValue9
  t20 := Tryz.underlying20
  a20 := Tryz.isAgg20
  z20 := Tryz.sizeOf20
  v20 := Tryz.zeroValue20
  t21 := Tryz.underlying21
  a21 := Tryz.isAgg21
  z21 := Tryz.sizeOf21
  v21 := Tryz.zeroValue21
  t37 := Tryz.underlying50
  a37 := Tryz.isAgg50
  z37 := Tryz.sizeOf50
  v37 := Tryz.zeroValue50
  t46 := Tryz.underlying81
  a46 := Tryz.isAgg81
  z46 := Tryz.sizeOf81
  v46 := Tryz.zeroValue81
  t51 := Tryz.underlying118
  a51 := Tryz.isAgg118
  z51 := Tryz.sizeOf118
  v51 := Tryz.zeroValue118
  t70 := Tryz.underlying69
  a70 := Tryz.isAgg69
  z70 := Tryz.sizeOf69
  v70 := Tryz.zeroValue69
  t72 := Tryz.underlying71
  a72 := Tryz.isAgg71
  z72 := Tryz.sizeOf71
  v72 := Tryz.zeroValue71
  t75 := Tryz.underlying74
  a75 := Tryz.isAgg74
  z75 := Tryz.sizeOf74
  v75 := Tryz.zeroValue74
  t76 := Tryz.underlying75
  a76 := Tryz.isAgg75
  z76 := Tryz.sizeOf75
  v76 := Tryz.zeroValue75
  t105 := Tryz.underlying113
  a105 := Tryz.isAgg113
  z105 := Tryz.sizeOf113
  v105 := Tryz.zeroValue113
  t107 := Tryz.underlying80
  a107 := Tryz.isAgg80
  z107 := Tryz.sizeOf80
  v107 := Tryz.zeroValue80
  t119 := Tryz.underlying131
  a119 := Tryz.isAgg131
  z119 := Tryz.sizeOf131
  t127 := Tryz.underlying112
  a127 := Tryz.isAgg112
  z127 := Tryz.sizeOf112
  v127 := Tryz.zeroValue112
  t138 := Tryz.underlying166
  a138 := Tryz.isAgg166
  z138 := Tryz.sizeOf166
  v138 := Tryz.zeroValue166
  t139 := Tryz.underlying167
  a139 := Tryz.isAgg167
  z139 := Tryz.sizeOf167
  v139 := Tryz.zeroValue167
  t160 := Tryz.underlying168
  a160 := Tryz.isAgg168
  z160 := Tryz.sizeOf168
  v160 := Tryz.zeroValue168
  t162 := Tryz.underlying145
  a162 := Tryz.isAgg145
  z162 := Tryz.sizeOf145
  v162 := Tryz.zeroValue145
  t164 := Tryz.underlying139
  a164 := Tryz.isAgg139
  z164 := Tryz.sizeOf139
  v164 := Tryz.zeroValue139
  t203 := Tryz.underlying143
  a203 := Tryz.isAgg143
  z203 := Tryz.sizeOf143
  v203 := Tryz.zeroValue143
  t206 := Tryz.underlying193
  a206 := Tryz.isAgg193
  z206 := Tryz.sizeOf193
  v206 := Tryz.zeroValue193
  t208 := Tryz.underlying195
  a208 := Tryz.isAgg195
  z208 := Tryz.sizeOf195
  v208 := Tryz.zeroValue195
  g3 := by kernel_rfl
  g4 := by kernel_rfl
  g13 := by kernel_rfl }
theorem Tryz.Builder_Extra_158 : Builder.Extra Tryz.prog Tryz.lays158_ren := {
  sizeBuilder := by kernel_rfl
  liesBuilder := by kernel_rfl
  t5 := Tryz.underlying5
  a5 := Tryz.isAgg5
  z5 := Tryz.sizeOf5
  v5 := Tryz.zeroValue5
  infoByte := by kernel_rfl
  cellsByte := by kernel_rfl
  sizeByte := by kernel_rfl
  neB5 := by decide }
def Tryz.lays161_ren : Go.Shelf.Ren := ⟨fun | 161 => 90 | 231 => 109 | 227 => 111 | 233 => 112 | 235 => 114 | 228 => 135 | 197 => 70 | 151 => 136 | 260 => 98 | 152 => 153 | 137 => 165 | 119 => 166 | 224 => 125 | 225 => 124 | 217 => 123 | 266 => 141 | n => n, fun | 9 => 9 | 4 => 4 | 3 => 3 | 5 => 5 | 117 => 159 | 116 => 158 | 0 => 0 | 124 => 162 | 105 => 113 | 21 => 21 | 119 => 131 | 46 => 81 | 139 => 167 | 138 => 166 | n => n, fun | 3 => 4 | 4 => 5 | n => n⟩
theorem Tryz.lays161 : Go.Proofs.Lays.n161 Tryz.prog Tryz.lays161_ren := {
  mixed := by kernel_rfl
  f119 := Tryz.func166.trans (congrArg some (by kernel_rfl))
  f137 := Tryz.func165.trans (congrArg some (by kernel_rfl))
  f151 := Tryz.func136.trans (congrArg some (by kernel_rfl))
  f152 := Tryz.func153.trans (congrArg some (by kernel_rfl))
  f161 := Tryz.func90.trans (congrArg some (by kernel_rfl))
  f197 := Tryz.func70.trans (congrArg some (by kernel_rfl))
  f217 := Tryz.func123.trans (congrArg some (by kernel_rfl))
  f224 := Tryz.func125.trans (congrArg some (by kernel_rfl))
  f225 := Tryz.func124.trans (congrArg some (by kernel_rfl))
  f227 := Tryz.func111.trans (congrArg some (by kernel_rfl))
  f228 := Tryz.func135.trans (congrArg some (by kernel_rfl))
  f231 := Tryz.func109.trans (congrArg some (by kernel_rfl))
  f233 := Tryz.func112.trans (congrArg some (by kernel_rfl))
  f235 := Tryz.func114.trans (congrArg some (by kernel_rfl))
  f260 := Tryz.func98.trans (congrArg some (by kernel_rfl))
  f266 := Tryz.func141.trans (congrArg some (by kernel_rfl))
  t0 := Tryz.underlying0
  a0 := Tryz.isAgg0
  z0 := Tryz.sizeOf0
  v0 := Tryz.zeroValue0
  t3 := Tryz.underlying3
  a3 := Tryz.isAgg3
  z3 := Tryz.sizeOf3
  v3 := Tryz.zeroValue3
  t4 := Tryz.underlying4
  a4 := Tryz.isAgg4
  z4 := Tryz.sizeOf4
  v4 := Tryz.zeroValue4
  t5 := Tryz.underlying5
  a5 := Tryz.isAgg5
  z5 := Tryz.sizeOf5
  v5 := Tryz.zeroValue5
  t9 := Tryz.underlying9
  a9 := Tryz.isAgg9
  z9 := Tryz.sizeOf9
  v9 := Tryz.zeroValue9
  t21 := Tryz.underlying21
  a21 := Tryz.isAgg21
  z21 := Tryz.sizeOf21
  v21 := Tryz.zeroValue21
  t46 := Tryz.underlying81
  a46 := Tryz.isAgg81
  z46 := Tryz.sizeOf81
  v46 := Tryz.zeroValue81
  t105 := Tryz.underlying113
  a105 := Tryz.isAgg113
  z105 := Tryz.sizeOf113
  v105 := Tryz.zeroValue113
  t116 := Tryz.underlying158
  a116 := Tryz.isAgg158
  z116 := Tryz.sizeOf158
  t117 := Tryz.underlying159
  a117 := Tryz.isAgg159
  z117 := Tryz.sizeOf159
  v117 := Tryz.zeroValue159
  t119 := Tryz.underlying131
  a119 := Tryz.isAgg131
  z119 := Tryz.sizeOf131
  t124 := Tryz.underlying162
  a124 := Tryz.isAgg162
  z124 := Tryz.sizeOf162
  v124 := Tryz.zeroValue162
  t138 := Tryz.underlying166
  a138 := Tryz.isAgg166
  z138 := Tryz.sizeOf166
  v138 := Tryz.zeroValue166
  t139 := Tryz.underlying167
  a139 := Tryz.isAgg167
  z139 := Tryz.sizeOf167
  v139 := Tryz.zeroValue167
  g3 := by kernel_rfl
  g4 := by kernel_rfl }
open Go.RowKit in
theorem Tryz.strings_TrimLeft_one (s : ByteArray) (c : UInt8) (hc : c.toNat < 128) (w : World) :
    Calls Tryz.prog 90 #[.string s, .string ⟨#[c]⟩] w fun e w' => e = .returned (.string ⟨(Lib.trimLeftB s.data.toList c).toArray⟩) ∧ w' = w := Any.strings_TrimLeft_one Tryz.lays161 s c hc w
def Tryz.lays160_ren : Go.Shelf.Ren := ⟨fun | 160 => 88 | 232 => 110 | 231 => 109 | 227 => 111 | 234 => 113 | 233 => 112 | 236 => 115 | 235 => 114 | 228 => 135 | 271 => 137 | 151 => 136 | 197 => 70 | 120 => 154 | 152 => 153 | 260 => 98 | 137 => 165 | 119 => 166 | 224 => 125 | 225 => 124 | 217 => 123 | 266 => 141 | n => n, fun | 9 => 9 | 4 => 4 | 3 => 3 | 5 => 5 | 117 => 159 | 116 => 158 | 0 => 0 | 124 => 162 | 21 => 21 | 105 => 113 | 46 => 81 | 119 => 131 | 139 => 167 | 138 => 166 | n => n, fun | 3 => 4 | 4 => 5 | n => n⟩
theorem Tryz.lays160 : Go.Proofs.Lays.n160 Tryz.prog Tryz.lays160_ren := {
  mixed := by kernel_rfl
  f119 := Tryz.func166.trans (congrArg some (by kernel_rfl))
  f120 := Tryz.func154.trans (congrArg some (by kernel_rfl))
  f137 := Tryz.func165.trans (congrArg some (by kernel_rfl))
  f151 := Tryz.func136.trans (congrArg some (by kernel_rfl))
  f152 := Tryz.func153.trans (congrArg some (by kernel_rfl))
  f160 := Tryz.func88.trans (congrArg some (by kernel_rfl))
  f197 := Tryz.func70.trans (congrArg some (by kernel_rfl))
  f217 := Tryz.func123.trans (congrArg some (by kernel_rfl))
  f224 := Tryz.func125.trans (congrArg some (by kernel_rfl))
  f225 := Tryz.func124.trans (congrArg some (by kernel_rfl))
  f227 := Tryz.func111.trans (congrArg some (by kernel_rfl))
  f228 := Tryz.func135.trans (congrArg some (by kernel_rfl))
  f231 := Tryz.func109.trans (congrArg some (by kernel_rfl))
  f232 := Tryz.func110.trans (congrArg some (by kernel_rfl))
  f233 := Tryz.func112.trans (congrArg some (by kernel_rfl))
  f234 := Tryz.func113.trans (congrArg some (by kernel_rfl))
  f235 := Tryz.func114.trans (congrArg some (by kernel_rfl))
  f236 := Tryz.func115.trans (congrArg some (by kernel_rfl))
  f260 := Tryz.func98.trans (congrArg some (by kernel_rfl))
  f266 := Tryz.func141.trans (congrArg some (by kernel_rfl))
  f271 := Tryz.func137.trans (congrArg some (by kernel_rfl))
  t0 := Tryz.underlying0
  a0 := Tryz.isAgg0
  z0 := Tryz.sizeOf0
  v0 := Tryz.zeroValue0
  t3 := Tryz.underlying3
  a3 := Tryz.isAgg3
  z3 := Tryz.sizeOf3
  v3 := Tryz.zeroValue3
  t4 := Tryz.underlying4
  a4 := Tryz.isAgg4
  z4 := Tryz.sizeOf4
  v4 := Tryz.zeroValue4
  t5 := Tryz.underlying5
  a5 := Tryz.isAgg5
  z5 := Tryz.sizeOf5
  v5 := Tryz.zeroValue5
  t9 := Tryz.underlying9
  a9 := Tryz.isAgg9
  z9 := Tryz.sizeOf9
  v9 := Tryz.zeroValue9
  t21 := Tryz.underlying21
  a21 := Tryz.isAgg21
  z21 := Tryz.sizeOf21
  v21 := Tryz.zeroValue21
  t46 := Tryz.underlying81
  a46 := Tryz.isAgg81
  z46 := Tryz.sizeOf81
  v46 := Tryz.zeroValue81
  t105 := Tryz.underlying113
  a105 := Tryz.isAgg113
  z105 := Tryz.sizeOf113
  v105 := Tryz.zeroValue113
  t116 := Tryz.underlying158
  a116 := Tryz.isAgg158
  z116 := Tryz.sizeOf158
  t117 := Tryz.underlying159
  a117 := Tryz.isAgg159
  z117 := Tryz.sizeOf159
  v117 := Tryz.zeroValue159
  t119 := Tryz.underlying131
  a119 := Tryz.isAgg131
  z119 := Tryz.sizeOf131
  t124 := Tryz.underlying162
  a124 := Tryz.isAgg162
  z124 := Tryz.sizeOf162
  v124 := Tryz.zeroValue162
  t138 := Tryz.underlying166
  a138 := Tryz.isAgg166
  z138 := Tryz.sizeOf166
  v138 := Tryz.zeroValue166
  t139 := Tryz.underlying167
  a139 := Tryz.isAgg167
  z139 := Tryz.sizeOf167
  v139 := Tryz.zeroValue167
  g3 := by kernel_rfl
  g4 := by kernel_rfl }
open Go.RowKit in
theorem Tryz.strings_Trim_one (s : ByteArray) (c : UInt8) (hc : c.toNat < 128) (w : World) (hs : s.size ≤ 9223372036854775807) :
    Calls Tryz.prog 88 #[.string s, .string ⟨#[c]⟩] w fun e w' => e = .returned (.string ⟨(Lib.trimB s.data.toList c).toArray⟩) ∧ (w' = w ∨ w' = w.drew) := Any.strings_Trim_one Tryz.lays160 s c hc w hs
def Tryz.laysM171_ren : Go.Shelf.Ren := ⟨fun | 171 => 52 | 243 => 81 | 246 => 104 | 283 => 127 | 284 => 128 | 285 => 129 | 286 => 130 | 129 => 144 | 317 => 143 | 318 => 145 | 319 => 146 | 320 => 147 | 337 => 160 | 338 => 161 | n => n, fun | 3 => 3 | 9 => 9 | 2 => 2 | 4 => 4 | 171 => 172 | 0 => 0 | 53 => 121 | 37 => 50 | 5 => 5 | 173 => 175 | 212 => 198 | 51 => 118 | 20 => 20 | 213 => 199 | 46 => 81 | 232 => 224 | 233 => 225 | n => n, fun | 17 => 6 | 18 => 9 | 19 => 10 | n => n⟩
theorem Tryz.laysM171 : Go.Proofs.LaysM.n171 Tryz.prog Tryz.laysM171_ren := {
  mixed := by kernel_rfl
  f129 := Tryz.func144.trans (congrArg some (by kernel_rfl))
  f171 := Tryz.func52.trans (congrArg some (by kernel_rfl))
  f243 := Tryz.func81.trans (congrArg some (by kernel_rfl))
  f246 := Tryz.func104.trans (congrArg some (by kernel_rfl))
  f283 := Tryz.func127.trans (congrArg some (by kernel_rfl))
  f284 := Tryz.func128.trans (congrArg some (by kernel_rfl))
  f285 := Tryz.func129.trans (congrArg some (by kernel_rfl))
  f286 := Tryz.func130.trans (congrArg some (by kernel_rfl))
  f317 := Tryz.func143.trans (congrArg some (by kernel_rfl))
  f318 := Tryz.func145.trans (congrArg some (by kernel_rfl))
  f319 := Tryz.func146.trans (congrArg some (by kernel_rfl))
  f320 := Tryz.func147.trans (congrArg some (by kernel_rfl))
  f337 := Tryz.func160.trans (congrArg some (by kernel_rfl))
  f338 := Tryz.func161.trans (congrArg some (by kernel_rfl))
  t0 := Tryz.underlying0
  a0 := Tryz.isAgg0
  z0 := Tryz.sizeOf0
  v0 := Tryz.zeroValue0
  t2 := Tryz.underlying2
  a2 := Tryz.isAgg2
  z2 := Tryz.sizeOf2
  v2 := Tryz.zeroValue2
  t3 := Tryz.underlying3
  a3 := Tryz.isAgg3
  z3 := Tryz.sizeOf3
  v3 := Tryz.zeroValue3
  t4 := Tryz.underlying4
  a4 := Tryz.isAgg4
  z4 := Tryz.sizeOf4
  v4 := Tryz.zeroValue4
  t5 := Tryz.underlying5
  a5 := Tryz.isAgg5
  z5 := Tryz.sizeOf5
  v5 := Tryz.zeroValue5
  t9 := Tryz.underlying9
  a9 := Tryz.isAgg9
  z9 := Tryz.sizeOf9
  v9 := Tryz.zeroValue9
  t20 := Tryz.underlying20
  a20 := Tryz.isAgg20
  z20 := Tryz.sizeOf20
  v20 := Tryz.zeroValue20
  t37 := Tryz.underlying50
  a37 := Tryz.isAgg50
  z37 := Tryz.sizeOf50
  v37 := Tryz.zeroValue50
  t46 := Tryz.underlying81
  a46 := Tryz.isAgg81
  z46 := Tryz.sizeOf81
  v46 := Tryz.zeroValue81
  t51 := Tryz.underlying118
  a51 := Tryz.isAgg118
  z51 := Tryz.sizeOf118
  v51 := Tryz.zeroValue118
  t53 := Tryz.underlying121
  a53 := Tryz.isAgg121
  z53 := Tryz.sizeOf121
  v53 := Tryz.zeroValue121
  t171 := Tryz.underlying172
  a171 := Tryz.isAgg172
  z171 := Tryz.sizeOf172
  v171 := Tryz.zeroValue172
  t173 := Tryz.underlying175
  a173 := Tryz.isAgg175
  z173 := Tryz.sizeOf175
  v173 := Tryz.zeroValue175
  t212 := Tryz.underlying198
  a212 := Tryz.isAgg198
  z212 := Tryz.sizeOf198
  v212 := Tryz.zeroValue198
  t213 := Tryz.underlying199
  a213 := Tryz.isAgg199
  z213 := Tryz.sizeOf199
  t232 := Tryz.underlying224
  a232 := Tryz.isAgg224
  z232 := Tryz.sizeOf224
  v232 := Tryz.zeroValue224
  t233 := Tryz.underlying225
  a233 := Tryz.isAgg225
  z233 := Tryz.sizeOf225
  v233 := Tryz.zeroValue225
  g17 := by kernel_rfl
  g18 := by kernel_rfl
  g19 := by kernel_rfl
  i0 := by kernel_rfl
  i2 := by kernel_rfl
  i3 := by kernel_rfl
  i4 := by kernel_rfl
  i5 := by kernel_rfl
  i9 := by kernel_rfl
  i20 := by kernel_rfl
  i37 := by kernel_rfl
  i46 := by kernel_rfl
  i51 := by kernel_rfl
  i53 := by kernel_rfl
  i171 := by kernel_rfl
  i173 := by kernel_rfl
  i212 := by kernel_rfl
  i232 := by kernel_rfl
  i233 := by kernel_rfl
  m17 := by kernel_rfl
  m18 := by kernel_rfl
  m19 := by kernel_rfl }
open Go.RowKit Go.Sort Go.Lib in
theorem Tryz.strconv_Itoa (n : Int) (h0 : -9223372036854775808 ≤ n) (h1 : n ≤ 9223372036854775807) (w : World) (htab : Lib.TabIs Tryz.prog w "internal/strconv.uint64pow10" .u64 Lib.pow10Tab) :
    Calls Tryz.prog 52 #[.int .i64 n] w fun e w' => e = .returned (.string ⟨(Lib.itoa n).toArray⟩) ∧ ∃ k os, w' = grow (w.drewN k) os := Any.strconv_Itoa Tryz.laysM171 n h0 h1 w htab
def Tryz.lays171_ren : Go.Shelf.Ren := ⟨fun | 171 => 52 | 243 => 81 | 246 => 104 | 283 => 127 | 284 => 128 | 285 => 129 | 286 => 130 | 129 => 144 | 317 => 143 | 318 => 145 | 319 => 146 | 320 => 147 | 337 => 160 | 338 => 161 | n => n, fun | 3 => 3 | 9 => 9 | 2 => 2 | 4 => 4 | 171 => 172 | 0 => 0 | 53 => 121 | 37 => 50 | 5 => 5 | 173 => 175 | 212 => 198 | 51 => 118 | 20 => 20 | 213 => 199 | 46 => 81 | 232 => 224 | 233 => 225 | n => n, fun | 17 => 6 | 18 => 9 | 19 => 10 | n => n⟩
theorem Tryz.lays171 : Go.Proofs.Lays.n171 Tryz.prog Tryz.lays171_ren := {
  mixed := by kernel_rfl
  f129 := Tryz.func144.trans (congrArg some (by kernel_rfl))
  f171 := Tryz.func52.trans (congrArg some (by kernel_rfl))
  f243 := Tryz.func81.trans (congrArg some (by kernel_rfl))
  f246 := Tryz.func104.trans (congrArg some (by kernel_rfl))
  f283 := Tryz.func127.trans (congrArg some (by kernel_rfl))
  f284 := Tryz.func128.trans (congrArg some (by kernel_rfl))
  f285 := Tryz.func129.trans (congrArg some (by kernel_rfl))
  f286 := Tryz.func130.trans (congrArg some (by kernel_rfl))
  f317 := Tryz.func143.trans (congrArg some (by kernel_rfl))
  f318 := Tryz.func145.trans (congrArg some (by kernel_rfl))
  f319 := Tryz.func146.trans (congrArg some (by kernel_rfl))
  f320 := Tryz.func147.trans (congrArg some (by kernel_rfl))
  f337 := Tryz.func160.trans (congrArg some (by kernel_rfl))
  f338 := Tryz.func161.trans (congrArg some (by kernel_rfl))
  t0 := Tryz.underlying0
  a0 := Tryz.isAgg0
  z0 := Tryz.sizeOf0
  v0 := Tryz.zeroValue0
  t2 := Tryz.underlying2
  a2 := Tryz.isAgg2
  z2 := Tryz.sizeOf2
  v2 := Tryz.zeroValue2
  t3 := Tryz.underlying3
  a3 := Tryz.isAgg3
  z3 := Tryz.sizeOf3
  v3 := Tryz.zeroValue3
  t4 := Tryz.underlying4
  a4 := Tryz.isAgg4
  z4 := Tryz.sizeOf4
  v4 := Tryz.zeroValue4
  t5 := Tryz.underlying5
  a5 := Tryz.isAgg5
  z5 := Tryz.sizeOf5
  v5 := Tryz.zeroValue5
  t9 := Tryz.underlying9
  a9 := Tryz.isAgg9
  z9 := Tryz.sizeOf9
  v9 := Tryz.zeroValue9
  t20 := Tryz.underlying20
  a20 := Tryz.isAgg20
  z20 := Tryz.sizeOf20
  v20 := Tryz.zeroValue20
  t37 := Tryz.underlying50
  a37 := Tryz.isAgg50
  z37 := Tryz.sizeOf50
  v37 := Tryz.zeroValue50
  t46 := Tryz.underlying81
  a46 := Tryz.isAgg81
  z46 := Tryz.sizeOf81
  v46 := Tryz.zeroValue81
  t51 := Tryz.underlying118
  a51 := Tryz.isAgg118
  z51 := Tryz.sizeOf118
  v51 := Tryz.zeroValue118
  t53 := Tryz.underlying121
  a53 := Tryz.isAgg121
  z53 := Tryz.sizeOf121
  v53 := Tryz.zeroValue121
  t171 := Tryz.underlying172
  a171 := Tryz.isAgg172
  z171 := Tryz.sizeOf172
  v171 := Tryz.zeroValue172
  t173 := Tryz.underlying175
  a173 := Tryz.isAgg175
  z173 := Tryz.sizeOf175
  v173 := Tryz.zeroValue175
  t212 := Tryz.underlying198
  a212 := Tryz.isAgg198
  z212 := Tryz.sizeOf198
  v212 := Tryz.zeroValue198
  t213 := Tryz.underlying199
  a213 := Tryz.isAgg199
  z213 := Tryz.sizeOf199
  t232 := Tryz.underlying224
  a232 := Tryz.isAgg224
  z232 := Tryz.sizeOf224
  v232 := Tryz.zeroValue224
  t233 := Tryz.underlying225
  a233 := Tryz.isAgg225
  z233 := Tryz.sizeOf225
  v233 := Tryz.zeroValue225
  g17 := by kernel_rfl
  g18 := by kernel_rfl
  g19 := by kernel_rfl }
open Go.RowKit Go.Sort Go.Lib in
theorem Tryz.strconv_Itoa_small (i : Nat) (hi : i < 100) (w : World) :
    Calls Tryz.prog 52 #[.int .i64 i] w fun e w' => e = .returned (.string ⟨(Lib.decDigits i).toArray⟩) ∧ w' = w := Any.strconv_Itoa_small Tryz.lays171 i hi w
def Tryz.laysC172_ren : Go.Shelf.Ren := ⟨fun | 172 => 119 | 244 => 139 | 245 => 140 | 247 => 155 | 279 => 156 | 280 => 157 | 281 => 158 | 282 => 159 | 287 => 167 | 316 => 168 | 171 => 52 | 205 => 169 | 321 => 171 | 322 => 172 | 243 => 81 | 246 => 104 | 283 => 127 | 284 => 128 | 285 => 129 | 286 => 130 | 129 => 144 | 317 => 143 | 318 => 145 | 319 => 146 | 320 => 147 | 337 => 160 | 338 => 161 | n => n, fun | 9 => 9 | 3 => 3 | 75 => 74 | 76 => 75 | 4 => 4 | 5 => 5 | 167 => 211 | 37 => 50 | 0 => 0 | 85 => 212 | 2 => 2 | 168 => 214 | 53 => 121 | 175 => 219 | 46 => 81 | 210 => 222 | 127 => 112 | 145 => 230 | 143 => 228 | 21 => 21 | 171 => 172 | 173 => 175 | 212 => 198 | 51 => 118 | 20 => 20 | 213 => 199 | 232 => 224 | 233 => 225 | 80 => 78 | n => n, fun | 15 => 7 | 16 => 8 | 17 => 6 | 18 => 9 | 19 => 10 | n => n⟩
theorem Tryz.laysC172 : Go.Proofs.LaysC.n172 Tryz.prog Tryz.laysC172_ren := {
  mixed := by kernel_rfl
  f129 := Tryz.func144.trans (congrArg some (by kernel_rfl))
  f171 := Tryz.func52.trans (congrArg some (by kernel_rfl))
  f172 := Tryz.func119.trans (congrArg some (by kernel_rfl))
  f205 := Tryz.func169.trans (congrArg some (by kernel_rfl))
  f243 := Tryz.func81.trans (congrArg some (by kernel_rfl))
  f244 := Tryz.func139.trans (congrArg some (by kernel_rfl))
  f245 := Tryz.func140.trans (congrArg some (by kernel_rfl))
  f246 := Tryz.func104.trans (congrArg some (by kernel_rfl))
  f247 := Tryz.func155.trans (congrArg some (by kernel_rfl))
  f279 := Tryz.func156.trans (congrArg some (by kernel_rfl))
  f280 := Tryz.func157.trans (congrArg some (by kernel_rfl))
  f281 := Tryz.func158.trans (congrArg some (by kernel_rfl))
  f282 := Tryz.func159.trans (congrArg some (by kernel_rfl))
  f283 := Tryz.func127.trans (congrArg some (by kernel_rfl))
  f284 := Tryz.func128.trans (congrArg some (by kernel_rfl))
  f285 := Tryz.func129.trans (congrArg some (by kernel_rfl))
  f286 := Tryz.func130.trans (congrArg some (by kernel_rfl))
  f287 := Tryz.func167.trans (congrArg some (by kernel_rfl))
  f316 := Tryz.func168.trans (congrArg some (by kernel_rfl))
  f317 := Tryz.func143.trans (congrArg some (by kernel_rfl))
  f318 := Tryz.func145.trans (congrArg some (by kernel_rfl))
  f319 := Tryz.func146.trans (congrArg some (by kernel_rfl))
  f320 := Tryz.func147.trans (congrArg some (by kernel_rfl))
  f321 := Tryz.func171.trans (congrArg some (by kernel_rfl))
  f322 := Tryz.func172.trans (congrArg some (by kernel_rfl))
  f337 := Tryz.func160.trans (congrArg some (by kernel_rfl))
  f338 := Tryz.func161.trans (congrArg some (by kernel_rfl))
  t0 := Tryz.underlying0
  a0 := Tryz.isAgg0
  z0 := Tryz.sizeOf0
  v0 := Tryz.zeroValue0
  t2 := Tryz.underlying2
  a2 := Tryz.isAgg2
  z2 := Tryz.sizeOf2
  v2 := Tryz.zeroValue2
  t3 := Tryz.underlying3
  a3 := Tryz.isAgg3
  z3 := Tryz.sizeOf3
  v3 := Tryz.zeroValue3
  t4 := Tryz.underlying4
  a4 := Tryz.isAgg4
  z4 := Tryz.sizeOf4
  v4 := Tryz.zeroValue4
  t5 := Tryz.underlying5
  a5 := Tryz.isAgg5
  z5 := Tryz.sizeOf5
  v5 := Tryz.zeroValue5
  t9 := Tryz.underlying9
  a9 := Tryz.isAgg9
  z9 := Tryz.sizeOf9
  v9 := Tryz.zeroValue9
  t20 := Tryz.underlying20
  a20 := Tryz.isAgg20
  z20 := Tryz.sizeOf20
  v20 := Tryz.zeroValue20
  t21 := Tryz.underlying21
  a21 := Tryz.isAgg21
  z21 := Tryz.sizeOf21
  v21 := Tryz.zeroValue21
  t37 := Tryz.underlying50
  a37 := Tryz.isAgg50
  z37 := Tryz.sizeOf50
  v37 := Tryz.zeroValue50
  t46 := Tryz.underlying81
  a46 := Tryz.isAgg81
  z46 := Tryz.sizeOf81
  v46 := Tryz.zeroValue81
  t51 := Tryz.underlying118
  a51 := Tryz.isAgg118
  z51 := Tryz.sizeOf118
  v51 := Tryz.zeroValue118
  t53 := Tryz.underlying121
  a53 := Tryz.isAgg121
  z53 := Tryz.sizeOf121
  v53 := Tryz.zeroValue121
  t75 := Tryz.underlying74
  a75 := Tryz.isAgg74
  z75 := Tryz.sizeOf74
  v75 := Tryz.zeroValue74
  t76 := Tryz.underlying75
  a76 := Tryz.isAgg75
  z76 := Tryz.sizeOf75
  v76 := Tryz.zeroValue75
  t85 := Tryz.underlying212
  a85 := Tryz.isAgg212
  z85 := Tryz.sizeOf212
  v85 := Tryz.zeroValue212
  t127 := Tryz.underlying112
  a127 := Tryz.isAgg112
  z127 := Tryz.sizeOf112
  v127 := Tryz.zeroValue112
  t143 := Tryz.underlying228
  a143 := Tryz.isAgg228
  z143 := Tryz.sizeOf228
  v143 := Tryz.zeroValue228
  t145 := Tryz.underlying230
  a145 := Tryz.isAgg230
  z145 := Tryz.sizeOf230
  v145 := Tryz.zeroValue230
  t167 := Tryz.underlying211
  a167 := Tryz.isAgg211
  z167 := Tryz.sizeOf211
  v167 := Tryz.zeroValue211
  t168 := Tryz.underlying214
  a168 := Tryz.isAgg214
  z168 := Tryz.sizeOf214
  v168 := Tryz.zeroValue214
  t171 := Tryz.underlying172
  a171 := Tryz.isAgg172
  z171 := Tryz.sizeOf172
  v171 := Tryz.zeroValue172
  t173 := Tryz.underlying175
  a173 := Tryz.isAgg175
  z173 := Tryz.sizeOf175
  v173 := Tryz.zeroValue175
  t175 := Tryz.underlying219
  a175 := Tryz.isAgg219
  z175 := Tryz.sizeOf219
  v175 := Tryz.zeroValue219
  t210 := Tryz.underlying222
  a210 := Tryz.isAgg222
  z210 := Tryz.sizeOf222
  v210 := Tryz.zeroValue222
  t212 := Tryz.underlying198
  a212 := Tryz.isAgg198
  z212 := Tryz.sizeOf198
  v212 := Tryz.zeroValue198
  t213 := Tryz.underlying199
  a213 := Tryz.isAgg199
  z213 := Tryz.sizeOf199
  t232 := Tryz.underlying224
  a232 := Tryz.isAgg224
  z232 := Tryz.sizeOf224
  v232 := Tryz.zeroValue224
  t233 := Tryz.underlying225
  a233 := Tryz.isAgg225
  z233 := Tryz.sizeOf225
  v233 := Tryz.zeroValue225
  g15 := by kernel_rfl
  g16 := by kernel_rfl
  g17 := by kernel_rfl
  g18 := by kernel_rfl
  g19 := by kernel_rfl
  t80 := Tryz.underlying78
  a80 := Tryz.isAgg78
  z80 := Tryz.sizeOf78
  v80 := Tryz.zeroValue78
  i0 := by kernel_rfl
  i2 := by kernel_rfl
  i3 := by kernel_rfl
  i4 := by kernel_rfl
  i5 := by kernel_rfl
  i9 := by kernel_rfl
  i20 := by kernel_rfl
  i21 := by kernel_rfl
  i37 := by kernel_rfl
  i46 := by kernel_rfl
  i51 := by kernel_rfl
  i53 := by kernel_rfl
  i75 := by kernel_rfl
  i76 := by kernel_rfl
  i80 := by kernel_rfl
  i85 := by kernel_rfl
  i127 := by kernel_rfl
  i143 := by kernel_rfl
  i145 := by kernel_rfl
  i167 := by kernel_rfl
  i168 := by kernel_rfl
  i171 := by kernel_rfl
  i173 := by kernel_rfl
  i175 := by kernel_rfl
  i210 := by kernel_rfl
  i212 := by kernel_rfl
  i232 := by kernel_rfl
  i233 := by kernel_rfl
  m15 := by kernel_rfl
  m16 := by kernel_rfl
  m17 := by kernel_rfl
  m18 := by kernel_rfl
  m19 := by kernel_rfl
  c0 := by kernel_rfl
  c2 := by kernel_rfl
  c3 := by kernel_rfl
  c4 := by kernel_rfl
  c5 := by kernel_rfl
  c9 := by kernel_rfl
  c20 := by kernel_rfl
  c21 := by kernel_rfl
  c37 := by kernel_rfl
  c46 := by kernel_rfl
  c51 := by kernel_rfl
  c53 := by kernel_rfl
  c75 := by kernel_rfl
  c76 := by kernel_rfl
  c80 := by kernel_rfl
  c85 := by kernel_rfl
  c127 := by kernel_rfl
  c143 := by kernel_rfl
  c145 := by kernel_rfl
  c167 := by kernel_rfl
  c168 := by kernel_rfl
  c171 := by kernel_rfl
  c173 := by kernel_rfl
  c175 := by kernel_rfl
  c210 := by kernel_rfl
  c212 := by kernel_rfl
  c213 := by kernel_rfl
  c232 := by kernel_rfl
  c233 := by kernel_rfl }
open Go.RowKit in
theorem Tryz.strconv_Atoi_ok (s : ByteArray) (hmax : s.size ≤ 9223372036854775806) (v : Int) (h : Lib.atoiAll s.data.toList = .ok v) (w : World) :
    Calls Tryz.prog 119 #[.string s] w fun e w' => e = .returned (.tuple #[.int .i64 v, .nilIface]) ∧ (w' = w ∨ ∃ t, w' = Lib.bytesWorld w 5 t) := Any.strconv_Atoi_ok Tryz.laysC172 s hmax v h w
open Go.RowKit in
theorem Tryz.strconv_Atoi_bad (s : ByteArray) (hlim : s.size ≤ 281474976710656) (h1 : ∀ v, Lib.atoiAll s.data.toList ≠ .ok v) (h2 : Lib.atoiAll s.data.toList ≠ .range) (ev : Value) (w : World) (hv : w.cell? ⟨7, 0, none⟩ = some ev) (hev : ev = .nilIface ∨ ∃ te pe, ev = .iface te pe) :
    Calls Tryz.prog 119 #[.string s] w fun e w' => ∃ N, e = .returned (.tuple #[.int .i64 (0), .iface 214 (.pointer (some ⟨N, 0, none⟩))]) ∧ w.heap.size ≤ N ∧ w'.heap[N]? = some (.cells #[.string ⟨#[65, 116, 111, 105]⟩, .string s, ev] 222 (0, 0)) ∧ Below w.heap.size w w' := Any.strconv_Atoi_syntax Tryz.laysC172 s hlim (by cases e : Lib.atoiAll s.data.toList <;> first | rfl | exact absurd e (h1 _) | exact absurd e h2) ev w hv hev
open Go.RowKit in
theorem Tryz.strconv_Atoi_range (s : ByteArray) (hlim : s.size ≤ 281474976710656) (h : Lib.atoiAll s.data.toList = .range) (ev : Value) (w : World) (hv : w.cell? ⟨8, 0, none⟩ = some ev) (hev : ev = .nilIface ∨ ∃ te pe, ev = .iface te pe) :
    Calls Tryz.prog 119 #[.string s] w fun e w' => ∃ N, e = .returned (.tuple #[.int .i64 (Lib.atoiSat s.data.toList), .iface 214 (.pointer (some ⟨N, 0, none⟩))]) ∧ w.heap.size ≤ N ∧ w'.heap[N]? = some (.cells #[.string ⟨#[65, 116, 111, 105]⟩, .string s, ev] 222 (0, 0)) ∧ Below w.heap.size w w' := Any.strconv_Atoi_range Tryz.laysC172 s hlim h ev w hv hev
def Tryz.lays219_ren : Go.Shelf.Ren := ⟨fun | 219 => 103 | 217 => 123 | 225 => 124 | 224 => 125 | 267 => 126 | 266 => 141 | 314 => 142 | n => n, fun | 9 => 9 | 3 => 3 | 4 => 4 | 5 => 5 | 46 => 81 | 146 => 119 | 51 => 118 | n => n, fun | 1 => 3 | n => n⟩
theorem Tryz.lays219 : Go.Proofs.Lays.n219 Tryz.prog Tryz.lays219_ren := {
  mixed := by kernel_rfl
  f217 := Tryz.func123.trans (congrArg some (by kernel_rfl))
  f219 := Tryz.func103.trans (congrArg some (by kernel_rfl))
  f224 := Tryz.func125.trans (congrArg some (by kernel_rfl))
  f225 := Tryz.func124.trans (congrArg some (by kernel_rfl))
  f266 := Tryz.func141.trans (congrArg some (by kernel_rfl))
  f267 := Tryz.func126.trans (congrArg some (by kernel_rfl))
  f314 := Tryz.func142.trans (congrArg some (by kernel_rfl))
  t3 := Tryz.underlying3
  a3 := Tryz.isAgg3
  z3 := Tryz.sizeOf3
  v3 := Tryz.zeroValue3
  t4 := Tryz.underlying4
  a4 := Tryz.isAgg4
  z4 := Tryz.sizeOf4
  v4 := Tryz.zeroValue4
  t5 := Tryz.underlying5
  a5 := Tryz.isAgg5
  z5 := Tryz.sizeOf5
  v5 := Tryz.zeroValue5
  t9 := Tryz.underlying9
  a9 := Tryz.isAgg9
  z9 := Tryz.sizeOf9
  v9 := Tryz.zeroValue9
  t46 := Tryz.underlying81
  a46 := Tryz.isAgg81
  z46 := Tryz.sizeOf81
  v46 := Tryz.zeroValue81
  t51 := Tryz.underlying118
  a51 := Tryz.isAgg118
  z51 := Tryz.sizeOf118
  v51 := Tryz.zeroValue118
  t146 := Tryz.underlying119
  a146 := Tryz.isAgg119
  z146 := Tryz.sizeOf119
  v146 := Tryz.zeroValue119
  g1 := by kernel_rfl }
open Go.RowKit Go.Lib in
theorem Tryz.stringslite_Index_one (s : ByteArray) (c : UInt8) (w : World) :
    Calls Tryz.prog 103 #[.string s, .string ⟨#[c]⟩] w fun e w' => e = .returned (.int .i64 (Lib.indexByte s.data.toList c)) ∧ w' = w := Any.stringslite_Index_one Tryz.lays219 s c w
def Tryz.lays99_ren : Go.Shelf.Ren := ⟨fun | 99 => 10 | 206 => 32 | n => n, fun | 9 => 9 | 4 => 4 | 3 => 3 | n => n, fun | n => n⟩
theorem Tryz.lays99 : Go.Proofs.Lays.n99 Tryz.prog Tryz.lays99_ren := {
  mixed := by kernel_rfl
  f99 := Tryz.func10.trans (congrArg some (by kernel_rfl))
  f206 := Tryz.func32.trans (congrArg some (by kernel_rfl))
  t3 := Tryz.underlying3
  a3 := Tryz.isAgg3
  z3 := Tryz.sizeOf3
  v3 := Tryz.zeroValue3
  t4 := Tryz.underlying4
  a4 := Tryz.isAgg4
  z4 := Tryz.sizeOf4
  v4 := Tryz.zeroValue4
  t9 := Tryz.underlying9
  a9 := Tryz.isAgg9
  z9 := Tryz.sizeOf9
  v9 := Tryz.zeroValue9 }
open Go.RowKit Go.Lib in
theorem Tryz.strings_HasPrefix (s p : ByteArray) (w : World) :
    Calls Tryz.prog 10 #[.string s, .string p] w fun e w' => e = .returned (.bool (Lib.hasPrefix s.data.toList p.data.toList)) ∧ w' = w := Any.strings_HasPrefix Tryz.lays99 s p w
def Tryz.lays157_ren : Go.Shelf.Ren := ⟨fun | 157 => 56 | 229 => 86 | 199 => 87 | 261 => 108 | 311 => 133 | 312 => 134 | n => n, fun | 9 => 9 | 31 => 24 | 3 => 3 | 5 => 5 | 4 => 4 | 119 => 131 | 0 => 0 | 40 => 133 | 152 => 151 | 21 => 21 | 154 => 153 | 51 => 118 | 141 => 155 | 196 => 182 | 193 => 179 | 198 => 185 | 49 => 183 | 194 => 180 | 201 => 188 | 226 => 208 | 46 => 81 | 227 => 209 | n => n, fun | 0 => 0 | 6 => 2 | n => n⟩
theorem Tryz.lays157 : Go.Proofs.Lays.n157 Tryz.prog Tryz.lays157_ren := {
  mixed := by kernel_rfl
  f157 := Tryz.func56.trans (congrArg some (by kernel_rfl))
  f199 := Tryz.func87.trans (congrArg some (by kernel_rfl))
  f229 := Tryz.func86.trans (congrArg some (by kernel_rfl))
  f261 := Tryz.func108.trans (congrArg some (by kernel_rfl))
  f311 := Tryz.func133.trans (congrArg some (by kernel_rfl))
  f312 := Tryz.func134.trans (congrArg some (by kernel_rfl))
  t0 := Tryz.underlying0
  a0 := Tryz.isAgg0
  z0 := Tryz.sizeOf0
  v0 := Tryz.zeroValue0
  t3 := Tryz.underlying3
  a3 := Tryz.isAgg3
  z3 := Tryz.sizeOf3
  v3 := Tryz.zeroValue3
  t4 := Tryz.underlying4
  a4 := Tryz.isAgg4
  z4 := Tryz.sizeOf4
  v4 := Tryz.zeroValue4
  t5 := Tryz.underlying5
  a5 := Tryz.isAgg5
  z5 := Tryz.sizeOf5
  v5 := Tryz.zeroValue5
  t9 := Tryz.underlying9
  a9 := Tryz.isAgg9
  z9 := Tryz.sizeOf9
  v9 := Tryz.zeroValue9
  t21 := Tryz.underlying21
  a21 := Tryz.isAgg21
  z21 := Tryz.sizeOf21
  v21 := Tryz.zeroValue21
  t31 := Tryz.underlying24
  a31 := Tryz.isAgg24
  z31 := Tryz.sizeOf24
  v31 := Tryz.zeroValue24
  t40 := Tryz.underlying133
  a40 := Tryz.isAgg133
  z40 := Tryz.sizeOf133
  v40 := Tryz.zeroValue133
  t46 := Tryz.underlying81
  a46 := Tryz.isAgg81
  z46 := Tryz.sizeOf81
  v46 := Tryz.zeroValue81
  t49 := Tryz.underlying183
  a49 := Tryz.isAgg183
  z49 := Tryz.sizeOf183
  v49 := Tryz.zeroValue183
  t51 := Tryz.underlying118
  a51 := Tryz.isAgg118
  z51 := Tryz.sizeOf118
  v51 := Tryz.zeroValue118
  t119 := Tryz.underlying131
  a119 := Tryz.isAgg131
  z119 := Tryz.sizeOf131
  t141 := Tryz.underlying155
  a141 := Tryz.isAgg155
  z141 := Tryz.sizeOf155
  v141 := Tryz.zeroValue155
  t152 := Tryz.underlying151
  a152 := Tryz.isAgg151
  z152 := Tryz.sizeOf151
  v152 := Tryz.zeroValue151
  t154 := Tryz.underlying153
  a154 := Tryz.isAgg153
  z154 := Tryz.sizeOf153
  v154 := Tryz.zeroValue153
  t193 := Tryz.underlying179
  a193 := Tryz.isAgg179
  z193 := Tryz.sizeOf179
  v193 := Tryz.zeroValue179
  t194 := Tryz.underlying180
  a194 := Tryz.isAgg180
  z194 := Tryz.sizeOf180
  v194 := Tryz.zeroValue180
  t196 := Tryz.underlying182
  a196 := Tryz.isAgg182
  z196 := Tryz.sizeOf182
  v196 := Tryz.zeroValue182
  t198 := Tryz.underlying185
  a198 := Tryz.isAgg185
  z198 := Tryz.sizeOf185
  v198 := Tryz.zeroValue185
  t201 := Tryz.underlying188
  a201 := Tryz.isAgg188
  z201 := Tryz.sizeOf188
  v201 := Tryz.zeroValue188
  t226 := Tryz.underlying208
  a226 := Tryz.isAgg208
  z226 := Tryz.sizeOf208
  v226 := Tryz.zeroValue208
  t227 := Tryz.underlying209
  a227 := Tryz.isAgg209
  z227 := Tryz.sizeOf209
  v227 := Tryz.zeroValue209
  g0 := by kernel_rfl
  g6 := by kernel_rfl }
def Tryz.laysM157_ren : Go.Shelf.Ren := ⟨fun | 157 => 56 | 229 => 86 | 199 => 87 | 261 => 108 | 311 => 133 | 312 => 134 | n => n, fun | 9 => 9 | 31 => 24 | 3 => 3 | 5 => 5 | 4 => 4 | 119 => 131 | 0 => 0 | 40 => 133 | 152 => 151 | 21 => 21 | 154 => 153 | 51 => 118 | 141 => 155 | 196 => 182 | 193 => 179 | 198 => 185 | 49 => 183 | 194 => 180 | 201 => 188 | 226 => 208 | 46 => 81 | 227 => 209 | n => n, fun | 0 => 0 | 6 => 2 | n => n⟩
theorem Tryz.laysM157 : Go.Proofs.LaysM.n157 Tryz.prog Tryz.laysM157_ren := {
  mixed := by kernel_rfl
  f157 := Tryz.func56.trans (congrArg some (by kernel_rfl))
  f199 := Tryz.func87.trans (congrArg some (by kernel_rfl))
  f229 := Tryz.func86.trans (congrArg some (by kernel_rfl))
  f261 := Tryz.func108.trans (congrArg some (by kernel_rfl))
  f311 := Tryz.func133.trans (congrArg some (by kernel_rfl))
  f312 := Tryz.func134.trans (congrArg some (by kernel_rfl))
  t0 := Tryz.underlying0
  a0 := Tryz.isAgg0
  z0 := Tryz.sizeOf0
  v0 := Tryz.zeroValue0
  t3 := Tryz.underlying3
  a3 := Tryz.isAgg3
  z3 := Tryz.sizeOf3
  v3 := Tryz.zeroValue3
  t4 := Tryz.underlying4
  a4 := Tryz.isAgg4
  z4 := Tryz.sizeOf4
  v4 := Tryz.zeroValue4
  t5 := Tryz.underlying5
  a5 := Tryz.isAgg5
  z5 := Tryz.sizeOf5
  v5 := Tryz.zeroValue5
  t9 := Tryz.underlying9
  a9 := Tryz.isAgg9
  z9 := Tryz.sizeOf9
  v9 := Tryz.zeroValue9
  t21 := Tryz.underlying21
  a21 := Tryz.isAgg21
  z21 := Tryz.sizeOf21
  v21 := Tryz.zeroValue21
  t31 := Tryz.underlying24
  a31 := Tryz.isAgg24
  z31 := Tryz.sizeOf24
  v31 := Tryz.zeroValue24
  t40 := Tryz.underlying133
  a40 := Tryz.isAgg133
  z40 := Tryz.sizeOf133
  v40 := Tryz.zeroValue133
  t46 := Tryz.underlying81
  a46 := Tryz.isAgg81
  z46 := Tryz.sizeOf81
  v46 := Tryz.zeroValue81
  t49 := Tryz.underlying183
  a49 := Tryz.isAgg183
  z49 := Tryz.sizeOf183
  v49 := Tryz.zeroValue183
  t51 := Tryz.underlying118
  a51 := Tryz.isAgg118
  z51 := Tryz.sizeOf118
  v51 := Tryz.zeroValue118
  t119 := Tryz.underlying131
  a119 := Tryz.isAgg131
  z119 := Tryz.sizeOf131
  t141 := Tryz.underlying155
  a141 := Tryz.isAgg155
  z141 := Tryz.sizeOf155
  v141 := Tryz.zeroValue155
  t152 := Tryz.underlying151
  a152 := Tryz.isAgg151
  z152 := Tryz.sizeOf151
  v152 := Tryz.zeroValue151
  t154 := Tryz.underlying153
  a154 := Tryz.isAgg153
  z154 := Tryz.sizeOf153
  v154 := Tryz.zeroValue153
  t193 := Tryz.underlying179
  a193 := Tryz.isAgg179
  z193 := Tryz.sizeOf179
  v193 := Tryz.zeroValue179
  t194 := Tryz.underlying180
  a194 := Tryz.isAgg180
  z194 := Tryz.sizeOf180
  v194 := Tryz.zeroValue180
  t196 := Tryz.underlying182
  a196 := Tryz.isAgg182
  z196 := Tryz.sizeOf182
  v196 := Tryz.zeroValue182
  t198 := Tryz.underlying185
  a198 := Tryz.isAgg185
  z198 := Tryz.sizeOf185
  v198 := Tryz.zeroValue185
  t201 := Tryz.underlying188
  a201 := Tryz.isAgg188
  z201 := Tryz.sizeOf188
  v201 := Tryz.zeroValue188
  t226 := Tryz.underlying208
  a226 := Tryz.isAgg208
  z226 := Tryz.sizeOf208
  v226 := Tryz.zeroValue208
  t227 := Tryz.underlying209
  a227 := Tryz.isAgg209
  z227 := Tryz.sizeOf209
  v227 := Tryz.zeroValue209
  g0 := by kernel_rfl
  g6 := by kernel_rfl
  i0 := by kernel_rfl
  i3 := by kernel_rfl
  i4 := by kernel_rfl
  i5 := by kernel_rfl
  i9 := by kernel_rfl
  i21 := by kernel_rfl
  i31 := by kernel_rfl
  i40 := by kernel_rfl
  i46 := by kernel_rfl
  i49 := by kernel_rfl
  i51 := by kernel_rfl
  i141 := by kernel_rfl
  i152 := by kernel_rfl
  i154 := by kernel_rfl
  i193 := by kernel_rfl
  i194 := by kernel_rfl
  i196 := by kernel_rfl
  i198 := by kernel_rfl
  i201 := by kernel_rfl
  i226 := by kernel_rfl
  i227 := by kernel_rfl
  m0 := by kernel_rfl
  m6 := by kernel_rfl }
open Go.RowKit Go.Lib in
theorem Tryz.strings_Fields_laid (s : ByteArray) (w : World) (hs : s.size < 4294967281) (hascii : ∀ (j : Nat) b, s.data.toList[j]? = some b → b.toNat < 128) (htab : Lib.TabIs Tryz.prog w "strings.asciiSpace" .u8 Lib.asciiSpaceTab) :
    Calls Tryz.prog 56 #[.string s] w fun e w' =>
      e = .returned (.slice (some ⟨w.heap.size, 0, none⟩) (Lib.fields s.data.toList).length (Lib.fields s.data.toList).length) ∧ w' = w.alloc (.cells ((Lib.fields s.data.toList).map fun l => Value.string ⟨l.toArray⟩).toArray 9) := Any.strings_Fields_laid Tryz.laysM157 s w hs hascii htab
end Go.Proofs
end

section
/- strings.Cut at a separator of one byte, walked by hand over the shelf's contract of Index: what stands ahead of the first such byte, and behind it, for every text. -/
set_option linter.unusedVariables false
set_option linter.unusedSimpArgs false
namespace Go.Proofs.YtgaboenipiojoaaGreatDoor.QAll
open Go.RowKit Go.Proofs.YtgaboenipiojoaaGreatDoorW.PrintWords Go.Proofs.YtgaboenipiojoaaGreatDoorW.PrintLast Go.Proofs.YtgaboenipiojoaaGreatDoorW.PrintMore

/-- Where the first byte c stands; the length, if there is none. -/
def idxOf (s : ByteArray) (c : UInt8) : Nat := (Lib.indexByte s.data.toList c).toNat
def cutHas (s : ByteArray) (c : UInt8) : Bool := decide (0 ≤ Lib.indexByte s.data.toList c)
def cutA (s : ByteArray) (c : UInt8) : ByteArray := if cutHas s c = true then s.extract 0 (idxOf s c) else s
def cutB (s : ByteArray) (c : UInt8) : ByteArray := if cutHas s c = true then s.extract (idxOf s c + 1) s.size else ⟨#[]⟩

theorem indexByte_lt : ∀ (l : List UInt8) (c : UInt8) (i : Nat), Lib.indexByte l c = i → i < l.length
  | [], c, i, h => by
    simp only [Lib.indexByte] at h
    omega
  | b :: l, c, i, h => by
    have hg := Lib.indexByte_ge l c
    simp only [Lib.indexByte] at h
    by_cases e : (b == c) = true
    · rw [if_pos e] at h; simp only [List.length_cons]; omega
    · rw [if_neg e] at h
      by_cases e2 : (Lib.indexByte l c == -1) = true
      · rw [if_pos e2] at h; omega
      · rw [if_neg e2] at h
        have e3 : Lib.indexByte l c ≠ -1 := by simpa using e2
        have := indexByte_lt l c (i - 1) (by omega)
        simp only [List.length_cons]; omega

set_option maxHeartbeats 1000000 in
set_option maxRecDepth 100000 in
theorem slCut_one (s : ByteArray) (c : UInt8) (w : World) (hs : s.size ≤ 9223372036854775807) :
    Calls Tryz.prog 116 #[.string s, .string ⟨#[c]⟩] w fun e w' => e = .returned (.tuple #[.string (cutA s c), .string (cutB s c), .bool (cutHas s c)]) ∧ Drawn0 w w' := by
  by_cases h : 0 ≤ Lib.indexByte s.data.toList c
  · obtain ⟨i, hi⟩ := Int.eq_ofNat_of_zero_le h
    have hlt : i < s.size := by have := indexByte_lt _ _ _ hi; simpa using this
    have HA := Aside0.mk (show cutA s c = s.extract 0 i by unfold cutA cutHas idxOf; rw [hi]; simp)
    have HB := Aside0.mk (show cutB s c = s.extract (i + 1) s.size by unfold cutB cutHas idxOf; rw [hi]; simp)
    have HH := Aside0.mk (show cutHas s c = true by unfold cutHas; rw [hi]; simp)
    have HI := Aside0.mk hi
    clear h hi
    go_enter Tryz.func116, Tryz.ntmps116
    go_wp2_with (go_at_call 103; refine (Tryz.stringslite_Index_one s c _).mono ?_; rw [HI.out]; rintro e w' ⟨rfl, rfl⟩)
    have h0 : (0 : Int) ≤ (i : Int) := by omega
    have h1 : (i : Int) ≤ (s.size : Int) := by omega
    have h2 : (i : Int) + 1 ≤ (s.size : Int) := by omega
    go_quiet (fail)
    go_wp2
    go_ret3
    exact ⟨by rw [HA.out, HB.out, HH.out]; rfl, ⟨_, rfl⟩⟩
  · have HA := Aside0.mk (show cutA s c = s by unfold cutA cutHas; rw [decide_eq_false h]; simp)
    have HB := Aside0.mk (show cutB s c = ⟨#[]⟩ by unfold cutB cutHas; rw [decide_eq_false h]; simp)
    have HH := Aside0.mk (show cutHas s c = false by unfold cutHas; rw [decide_eq_false h])
    have hm : Lib.indexByte s.data.toList c = -1 := by have := Lib.indexByte_ge s.data.toList c; omega
    have HI := Aside0.mk hm
    clear h hm
    go_enter Tryz.func116, Tryz.ntmps116
    go_wp2_with (go_at_call 103; refine (Tryz.stringslite_Index_one s c _).mono ?_; rw [HI.out]; rintro e w' ⟨rfl, rfl⟩)
    go_ret3
    exact ⟨by rw [HA.out, HB.out, HH.out]; rfl, Drawn0.refl _⟩
theorem cut_one (s : ByteArray) (c : UInt8) (w : World) (hs : s.size ≤ 9223372036854775807) :
    Calls Tryz.prog 91 #[.string s, .string ⟨#[c]⟩] w fun e w' => e = .returned (.tuple #[.string (cutA s c), .string (cutB s c), .bool (cutHas s c)]) ∧ Drawn0 w w' := by
  go_enter Tryz.func91, Tryz.ntmps91
  go_wp2_with (go_at_call 116; refine (slCut_one s c _ hs).mono ?_; rintro e w' ⟨rfl, ⟨nd, rfl⟩⟩)
  go_ret3
  exact ⟨rfl, ⟨_, rfl⟩⟩
end Go.Proofs.YtgaboenipiojoaaGreatDoor.QAll
end

section
/- strings.Map and strings.FieldsFunc at this program's functions. -/
set_option linter.unusedVariables false
namespace Go.Proofs
open Go.Shelf Go.RowKit
/-- What strings.Map tells, at a program's function that gives one number for each. -/
theorem Tryz.strings_Map (g : Nat) (lb : Array Value) (eg : ∀ args w, (callFunc g args).run Tryz.prog w = .ok (.enter g args) w) (f : Int → Int) (s : ByteArray) (w : World) (hs : s.size < 35184372088832)
    (hf : MapAtRunes Tryz.prog g lb f w) (hnn : ∀ x : Nat, x ≤ 1114111 → 0 ≤ f x ∧ f x ≤ 2147483647) (hT : Lib.Utf8Tabs 4 5 w) :
    Calls Tryz.prog 39 #[.func (.func g) #[] lb, .string s] w fun e w' => e = .returned (.string ⟨(Lib.mapD f s.data.toList).toArray⟩) ∧ Below w.heap.size w w' :=
  Any.strings_Map_runes (ρ := Tryz.lays158_ren) { Tryz.lays158 with } Tryz.Builder_Extra_158 g lb eg f s w hs hf hnn hT
/-- What strings.FieldsFunc tells, at a program's function that tells of each number. -/
theorem Tryz.strings_FieldsFunc (g : Nat) (lb : Array Value) (eg : ∀ args w, (callFunc g args).run Tryz.prog w = .ok (.enter g args) w) (p : Nat → Bool) (s : ByteArray) (w : World) (hs : s.size ≤ 4294967296) (hp : PredAtRunes Tryz.prog g lb p w) :
    Calls Tryz.prog 86 #[.string s, .func (.func g) #[] lb] w fun e w' => ∃ A, e = .returned (.slice (some ⟨A, 0, none⟩) (Lib.goFieldsP p s).length (Lib.goFieldsP p s).length) ∧ w.heap.size ≤ A ∧
      w'.ownsRow w.heap.size 9 1 (.slice (some ⟨A, 0, none⟩) (Lib.goFieldsP p s).length (Lib.goFieldsP p s).length) (Lib.goFieldsP p s).length ((Lib.goFieldsP p s).map Value.string) ∧ Below w.heap.size w w' :=
  Any.strings_FieldsFunc_runes (ρ := Tryz.lays157_ren) { Tryz.lays157 with } g lb eg p s w hs hp (by kernel_rfl) (by kernel_rfl)
end Go.Proofs
end

section
/- What the walks ask of the package's variables (the two errors of strconv, its table of powers, the search's limit, the decoder's two tables, the table of blanks), and that it holds on while nothing that was there is written. -/
set_option linter.unusedVariables false
namespace Go.Proofs.YtgaboenipiojoaaGreatDoor.QAll
open Go.RowKit Go.Proofs.YtgaboenipiojoaaGreatDoorW.PrintWords Go.Proofs.YtgaboenipiojoaaGreatDoorW.PrintLast Go.Proofs.YtgaboenipiojoaaGreatDoorW.PrintMore
structure EnvW (w : World) : Prop where
  mx : ∃ m, w.cell? ⟨3, 0, none⟩ = some (.int .i64 m)
  syn : ∃ ev, w.cell? ⟨7, 0, none⟩ = some ev ∧ (ev = .nilIface ∨ ∃ te pe, ev = .iface te pe)
  rng : ∃ ev, w.cell? ⟨8, 0, none⟩ = some ev ∧ (ev = .nilIface ∨ ∃ te pe, ev = .iface te pe)
  tab : Lib.TabIs Tryz.prog w "internal/strconv.uint64pow10" .u64 Lib.pow10Tab
  utf : Lib.Utf8Tabs 4 5 w
  asp : Lib.TabIs Tryz.prog w "strings.asciiSpace" .u8 Lib.asciiSpaceTab
theorem tabIs_below {w w' : World} {s : String} {k : IntKind} {l : List Int} (ht : Lib.TabIs Tryz.prog w s k l) (hb : Below w.heap.size w w') : Lib.TabIs Tryz.prog w' s k l := by
  unfold Lib.TabIs World.var? at ht ⊢
  cases hg : Tryz.prog.globalNamed s with
  | none => simp [hg] at ht
  | some g =>
    simp only [hg, Option.bind_some] at ht ⊢
    have hlt : g < w.heap.size := by
      rcases Nat.lt_or_ge g w.heap.size with h' | h'
      · exact h'
      · simp [Array.getElem?_eq_none h'] at ht
    rw [hb.block g hlt]
    exact ht
theorem EnvW.below {w w' : World} (h : EnvW w) (hb : Below w.heap.size w w') : EnvW w' := by
  obtain ⟨⟨m, hm⟩, ⟨ev, hs, hs2⟩, ⟨ev2, hr, hr2⟩, ht, hu, ha⟩ := h
  exact ⟨⟨m, pw_cell_below hb hm⟩, ⟨ev, pw_cell_below hb hs, hs2⟩, ⟨ev2, pw_cell_below hb hr, hr2⟩, tabIs_below ht hb,
    ⟨fun c hc => pw_cell_below hb (hu.1 c hc), fun i hi => ⟨pw_cell_below hb (hu.2 i hi).1, pw_cell_below hb (hu.2 i hi).2⟩⟩, tabIs_below ha hb⟩
end Go.Proofs.YtgaboenipiojoaaGreatDoor.QAll
end

section
/- call.Parse, walked by hand: the call of a word, or none and ErrCall, for every word. -/
set_option linter.unusedVariables false
set_option linter.unusedSimpArgs false
namespace Go.Proofs.YtgaboenipiojoaaGreatDoor.QAll
open Go.RowKit Go.Proofs.YtgaboenipiojoaaGreatDoorW.PrintWords Go.Proofs.YtgaboenipiojoaaGreatDoorW.PrintLast Go.Proofs.YtgaboenipiojoaaGreatDoorW.PrintMore

/-- The number behind the dash; none, if there is none so written. -/
def numOf (s : ByteArray) : Option Int := match Lib.atoiAll s.data.toList with
  | .ok v => if Lib.itoa v = s.data.toList then some v else none
  | _ => none
/-- What Parse tells. -/
def parseS (s : ByteArray) : ByteArray × Int × Int :=
  if cutHas (upperS s) 45 = true then
    match numOf (cutB (upperS s) 45) with
    | some v => if rightB (cutA (upperS s) 45) v = true then (cutA (upperS s) 45, v, 0) else (⟨#[]⟩, 0, 12)
    | none => (⟨#[]⟩, 0, 12)
  else if rightB (cutA (upperS s) 45) 0 = true then (cutA (upperS s) 45, 0, 0) else (⟨#[]⟩, 0, 12)
def call_Parse.f (a0 : ByteArray) : Option (ByteArray × Int × Int) := if a0.size ≤ 281474976710656 then some (parseS a0) else none

theorem upper_size (s : ByteArray) : (upperS s).size = s.size := by
  unfold upperS upL strOfNums
  show (List.toArray _).size = _
  simp [bytesOf]
theorem cutA_size (s : ByteArray) (c : UInt8) : (cutA s c).size ≤ s.size := by
  unfold cutA
  split
  · simp only [ByteArray.size_extract]; omega
  · exact Nat.le_refl _
theorem cutB_size (s : ByteArray) (c : UInt8) : (cutB s c).size ≤ s.size := by
  unfold cutB
  split
  · simp only [ByteArray.size_extract]; omega
  · exact Nat.zero_le _
theorem atoi_bounds {l : List UInt8} {v : Int} (h : Lib.atoiAll l = .ok v) : -9223372036854775808 ≤ v ∧ v ≤ 9223372036854775807 := by
  cases l with
  | nil => cases h
  | cons c r =>
    simp only [Lib.atoiAll] at h
    generalize hm : Lib.parseMag (if c.toNat = 43 ∨ c.toNat = 45 then r else c :: r) = m at h
    cases m with
    | range => cases h
    | ok u =>
      simp only at h
      by_cases e : c.toNat = 45
      · simp only [e, not_true_eq_false, false_and, if_false, true_and, if_true] at h
        split at h
        · cases h
        · injection h with h; omega
      · simp only [e, not_false_eq_true, true_and, false_and, if_false] at h
        split at h
        · cases h
        · injection h with h; omega
    | _ => cases h
theorem below_itoa (w : World) (k : Nat) (os : Array Obj) : Below w.heap.size w (Go.Sort.grow (w.drewN k) os) :=
  ⟨rfl, rfl, rfl, by show w.heap.size ≤ (w.heap ++ os).size; rw [Array.size_append]; omega, fun _ hj => Go.Sort.heap_grow_old (w.drewN k) os hj⟩
/-- A block of two cells, both written. -/
theorem two_set {w : World} {g : Nat} {a b x y : Value} {t : TypeId} (h : w.heap[g]? = some (.cells #[a, b] t (0, 0))) :
    ((w.setCell ⟨g, 0, none⟩ x).setCell ⟨g, 1, none⟩ y).heap[g]? = some (.cells #[x, y] t (0, 0)) := by
  simp [World.setCell, Array.getElem?_modify, h]
theorem one_set {w : World} {g : Nat} {a b y : Value} {t : TypeId} (h : w.heap[g]? = some (.cells #[a, b] t (0, 0))) :
    (w.setCell ⟨g, 1, none⟩ y).heap[g]? = some (.cells #[a, y] t (0, 0)) := by
  simp [World.setCell, Array.getElem?_modify, h]
/-- What is laid open of a block of two cells. -/
theorem two_cell {w : World} {g : Nat} {a b : Value} {t : TypeId} (h : w.heap[g]? = some (.cells #[a, b] t (0, 0))) :
    w.cell? ⟨g, 0, none⟩ = some a ∧ w.cell? ⟨g, 1, none⟩ = some b ∧ w.frozen? ⟨g, 0, none⟩ = false ∧ w.frozen? ⟨g, 1, none⟩ = false := by
  simp [World.cell?, World.frozen?, h]

set_option maxHeartbeats 1000000 in
set_option maxRecDepth 100000 in
theorem call_Parse.calls (a0 : ByteArray) (r1 : ByteArray) (r2 r3 : Int) (w : World) (hE_ : EnvW w) (h : call_Parse.f a0 = some (r1, r2, r3)) :
    Calls Tryz.prog 117 #[.string a0] w fun e w' => e = .returned (.tuple #[.agg #[.string r1, .int .i64 r2], .int .i64 r3]) ∧ Below w.heap.size w w' := by
  unfold call_Parse.f at h
  split at h
  case isFalse => exact absurd h (by simp)
  rename_i hs
  have HE := Aside0.mk hE_
  clear hE_
  have HR := Aside0.mk (Option.some.inj h)
  clear h
  have hu29 := Tryz.underlying29
  have hup : (upperS a0).size ≤ 281474976710656 := by rw [upper_size]; exact hs
  have hca : (cutA (upperS a0) 45).size ≤ 9223372036854775807 := by have := cutA_size (upperS a0) 45; omega
  have hcb : (cutB (upperS a0) 45).size ≤ 281474976710656 := by have := cutB_size (upperS a0) 45; omega
  go_enter Tryz.func117, Tryz.ntmps117
  go_wp2_with (fail)
  (with_reducible refine (call_upper.calls a0 (upperS a0) _ (by unfold call_upper.f; rw [if_pos (by omega)])).mono ?_)
  rintro e w1 ⟨rfl, hb1⟩
  cases hh : cutHas (upperS a0) 45 with
  | false =>
    have HH := Aside0.mk hh
    clear hh
    go_wp2_with (fail)
    (with_reducible refine (cut_one (upperS a0) 45 _ (by omega)).mono ?_)
    rw [HH.out]
    rintro e w2 ⟨rfl, hd2⟩
    have hz1 : w.heap.size < w2.heap.size := by have := hb1.size; have := hd2.below.size; simp only [World.size_alloc] at *; omega
    have HB2 := Aside0.mk (show Below w.heap.size w w2 from below_then (below_then ((Below.refl _ _).alloc (Nat.le_refl _) _) (by simp) hb1) (by have := hb1.size; simp only [World.size_alloc] at *; omega) hd2.below)
    have HR2 := Aside0.mk (show w2.heap[w.heap.size]? = some (.cells #[.string ⟨#[]⟩, .int .i64 0] 29 (0, 0)) by
      rw [hd2.below.block _ (by have := hb1.size; simp only [World.size_alloc] at this; omega), hb1.block _ (by simp)]
      exact heap_alloc_new w _)
    clear hb1 hd2
    cases hq : rightB (cutA (upperS a0) 45) 0 with
    | true =>
      have hpr := HR.out
      rw [show parseS a0 = (cutA (upperS a0) 45, 0, 0) by unfold parseS; rw [HH.out, if_neg (by decide), if_pos hq]] at hpr
      simp only [Prod.mk.injEq] at hpr
      obtain ⟨rfl, rfl, rfl⟩ := hpr
      have HQ := Aside0.mk hq
      clear hq HR
      go_wp2_with (fail)
      (with_reducible refine (call_Right.calls (cutA (upperS a0) 45) 0 true _ (by unfold call_Right.f; rw [if_pos hca, HQ.out])).mono ?_)
      rintro e w3 ⟨rfl, hb3⟩
      have HR3 := Aside0.mk ((hb3.block _ (by simp; omega)).trans ((Below.heap_alloc _ _ _ (by omega)).trans HR2.out))
      have HC3 := Aside0.mk ((hb3.block w2.heap.size (by simp)).trans (heap_alloc_new w2 _))
      obtain ⟨k0, k1, k2, k3⟩ := two_cell HR3.out
      obtain ⟨c0, c1, c2, c3⟩ := two_cell HC3.out
      have HB3 := Aside0.mk (below_then (HB2.out.alloc HB2.out.size _) (by simp; omega) hb3)
      clear hb3
      go_wp2_with (fail)
      refine bodyPost_ret (results_ct rfl _ _ w.heap.size 29 #[.string (cutA (upperS a0) 45), .int .i64 0] (0, 0) _ rfl (two_set HR3.out) Tryz.underlying29 rfl (by kernel_rfl)) rfl ?_
      exact ⟨rfl, (HB3.out.setCell (Nat.le_refl _) _).setCell (Nat.le_refl _) _⟩
    | false =>
      have hpr := HR.out
      rw [show parseS a0 = (⟨#[]⟩, 0, 12) by unfold parseS; rw [HH.out, if_neg (by decide), if_neg (by rw [hq]; decide)]] at hpr
      simp only [Prod.mk.injEq] at hpr
      obtain ⟨rfl, rfl, rfl⟩ := hpr
      have HQ := Aside0.mk hq
      clear hq HR
      go_wp2_with (fail)
      (with_reducible refine (call_Right.calls (cutA (upperS a0) 45) 0 false _ (by unfold call_Right.f; rw [if_pos hca, HQ.out])).mono ?_)
      rintro e w3 ⟨rfl, hb3⟩
      have HR3 := Aside0.mk ((hb3.block _ (by simp; omega)).trans ((Below.heap_alloc _ _ _ (by omega)).trans HR2.out))
      obtain ⟨k0, k1, k2, k3⟩ := two_cell HR3.out
      have HB3 := Aside0.mk (below_then (HB2.out.alloc HB2.out.size _) (by simp; omega) hb3)
      clear hb3
      go_wp2_with (fail)
      refine bodyPost_ret (results_ct rfl _ _ w.heap.size 29 #[.string ⟨#[]⟩, .int .i64 0] (0, 0) _ rfl (two_set HR3.out) Tryz.underlying29 rfl (by kernel_rfl)) rfl ?_
      exact ⟨rfl, (HB3.out.setCell (Nat.le_refl _) _).setCell (Nat.le_refl _) _⟩
  | true =>
    have HH := Aside0.mk hh
    clear hh
    go_wp2_with (fail)
    (with_reducible refine (cut_one (upperS a0) 45 _ (by omega)).mono ?_)
    rw [HH.out]
    rintro e w2 ⟨rfl, hd2⟩
    have hz1 : w.heap.size < w2.heap.size := by have := hb1.size; have := hd2.below.size; simp only [World.size_alloc] at *; omega
    have HB2 := Aside0.mk (show Below w.heap.size w w2 from below_then (below_then ((Below.refl _ _).alloc (Nat.le_refl _) _) (by simp) hb1) (by have := hb1.size; simp only [World.size_alloc] at *; omega) hd2.below)
    have HR2 := Aside0.mk (show w2.heap[w.heap.size]? = some (.cells #[.string ⟨#[]⟩, .int .i64 0] 29 (0, 0)) by
      rw [hd2.below.block _ (by have := hb1.size; simp only [World.size_alloc] at this; omega), hb1.block _ (by simp)]
      exact heap_alloc_new w _)
    clear hb1 hd2
    have HE2 := Aside0.mk (HE.out.below HB2.out)
    cases ha : Lib.atoiAll (cutB (upperS a0) 45).data.toList with
    | ok v =>
      have HA := Aside0.mk ha
      clear ha
      go_wp2_with (fail)
      (refine (Tryz.strconv_Atoi_ok (cutB (upperS a0) 45) (by omega) v HA.out _).mono ?_)
      rintro e w3 ⟨rfl, hw3⟩
      have hb3 : Below (w2.heap.size + 1) (w2.alloc (Obj.cells #[Value.string (cutA (upperS a0) 45), Value.int IntKind.i64 0] 29)) w3 := by
        rcases hw3 with rfl | ⟨t, rfl⟩
        · exact Below.refl _ _
        · exact bytes_below (Below.refl _ _) (by simp) _ _
      clear hw3
      obtain ⟨hv0, hv1⟩ := atoi_bounds HA.out
      have HE3 := Aside0.mk (HE2.out.below (below_then ((Below.refl _ _).alloc (Nat.le_refl _) _) (by simp) (by simpa using hb3)))
      have HR3 := Aside0.mk ((hb3.block _ (by omega)).trans ((Below.heap_alloc _ _ _ (by omega)).trans HR2.out))
      have HC3 := Aside0.mk ((hb3.block w2.heap.size (by omega)).trans (heap_alloc_new w2 _))
      have HB3 := Aside0.mk (below_then (HB2.out.alloc HB2.out.size _) (by simp; omega) (by simpa using hb3))
      have hz3 : w2.heap.size + 1 ≤ w3.heap.size := by have := hb3.size; simpa using this
      clear hb3
      have HV0 := Aside0.mk hv0
      have HV1 := Aside0.mk hv1
      clear hv0 hv1
      cases hi : decide (Lib.itoa v = (cutB (upperS a0) 45).data.toList) with
      | true =>
        have HI := Aside0.mk (of_decide_eq_true hi)
        clear hi
        go_wp2_with (fail)
        refine (Tryz.strconv_Itoa v HV0.out HV1.out _ HE3.out.tab).mono ?_
        rw [HI.out]
        rintro e w4 ⟨rfl, kk, os, hw4⟩
        have hb4 : Below w3.heap.size w3 w4 := by rw [hw4]; exact below_itoa w3 kk os
        clear hw4
        have HR4 := Aside0.mk ((hb4.block _ (by omega)).trans HR3.out)
        have HC4 := Aside0.mk ((hb4.block w2.heap.size (by omega)).trans HC3.out)
        have HB4 := Aside0.mk (below_then HB3.out (by omega) hb4)
        have hz4 := Nat.le_trans hz3 hb4.size
        clear hb4 HR3 HC3 HB3 hz3
        obtain ⟨c0, c1, c2, c3⟩ := two_cell HC4.out
        cases hq : rightB (cutA (upperS a0) 45) v with
        | true =>
          have hpr := HR.out
          rw [show parseS a0 = (cutA (upperS a0) 45, v, 0) by unfold parseS numOf; rw [HH.out, if_pos rfl, HA.out]; simp only [if_pos HI.out, if_pos hq]] at hpr
          simp only [Prod.mk.injEq] at hpr
          obtain ⟨rfl, rfl, rfl⟩ := hpr
          have HQ := Aside0.mk hq
          clear hq HR
          go_wp2_with (fail)
          (with_reducible refine (call_Right.calls (cutA (upperS a0) 45) v true _ (by unfold call_Right.f; rw [if_pos hca, HQ.out])).mono ?_)
          rintro e w5 ⟨rfl, hb5⟩
          have HR5 := Aside0.mk ((hb5.block w.heap.size (by simp [World.setCell]; omega)).trans ((Below.heap_setCell w4 ⟨w2.heap.size, 1, none⟩ (.int .i64 v) w.heap.size (by simp; omega)).trans HR4.out))
          have HC5 := Aside0.mk ((hb5.block w2.heap.size (by simp [World.setCell]; omega)).trans (one_set HC4.out))
          obtain ⟨k0, k1, k2, k3⟩ := two_cell HR5.out
          obtain ⟨d0, d1, d2, d3⟩ := two_cell HC5.out
          have HB5 := Aside0.mk (below_then (HB4.out.setCell (p := ⟨w2.heap.size, 1, none⟩) (show w.heap.size ≤ w2.heap.size by omega) (.int .i64 v)) (by simp [World.setCell]; omega) hb5)
          clear hb5 c0 c1 c2 c3
          go_wp2_with (fail)
          refine bodyPost_ret (results_ct rfl _ _ w.heap.size 29 #[.string (cutA (upperS a0) 45), .int .i64 v] (0, 0) _ rfl (two_set HR5.out) Tryz.underlying29 rfl (by kernel_rfl)) rfl ?_
          exact ⟨rfl, (HB5.out.setCell (Nat.le_refl _) _).setCell (Nat.le_refl _) _⟩
        | false =>
          have hpr := HR.out
          rw [show parseS a0 = (⟨#[]⟩, 0, 12) by unfold parseS numOf; rw [HH.out, if_pos rfl, HA.out]; simp only [if_pos HI.out, hq, Bool.false_eq_true, if_false]] at hpr
          simp only [Prod.mk.injEq] at hpr
          obtain ⟨rfl, rfl, rfl⟩ := hpr
          have HQ := Aside0.mk hq
          clear hq HR
          go_wp2_with (fail)
          (with_reducible refine (call_Right.calls (cutA (upperS a0) 45) v false _ (by unfold call_Right.f; rw [if_pos hca, HQ.out])).mono ?_)
          rintro e w5 ⟨rfl, hb5⟩
          have HR5 := Aside0.mk ((hb5.block w.heap.size (by simp [World.setCell]; omega)).trans ((Below.heap_setCell w4 ⟨w2.heap.size, 1, none⟩ (.int .i64 v) w.heap.size (by simp; omega)).trans HR4.out))
          have HC5 := Aside0.mk ((hb5.block w2.heap.size (by simp [World.setCell]; omega)).trans (one_set HC4.out))
          obtain ⟨k0, k1, k2, k3⟩ := two_cell HR5.out
          obtain ⟨d0, d1, d2, d3⟩ := two_cell HC5.out
          have HB5 := Aside0.mk (below_then (HB4.out.setCell (p := ⟨w2.heap.size, 1, none⟩) (show w.heap.size ≤ w2.heap.size by omega) (.int .i64 v)) (by simp [World.setCell]; omega) hb5)
          clear hb5 c0 c1 c2 c3
          go_wp2_with (fail)
          refine bodyPost_ret (results_ct rfl _ _ w.heap.size 29 #[.string ⟨#[]⟩, .int .i64 0] (0, 0) _ rfl (two_set HR5.out) Tryz.underlying29 rfl (by kernel_rfl)) rfl ?_
          exact ⟨rfl, (HB5.out.setCell (Nat.le_refl _) _).setCell (Nat.le_refl _) _⟩
      | false =>
        have hi' := of_decide_eq_false hi
        have HI := Aside0.mk hi'
        clear hi hi'
        have hpr := HR.out
        rw [show parseS a0 = (⟨#[]⟩, 0, 12) by unfold parseS numOf; rw [HH.out, if_pos rfl, HA.out]; simp only [if_neg HI.out]] at hpr
        simp only [Prod.mk.injEq] at hpr
        obtain ⟨rfl, rfl, rfl⟩ := hpr
        clear HR
        go_wp2_with (fail)
        refine (Tryz.strconv_Itoa v HV0.out HV1.out _ HE3.out.tab).mono ?_
        rintro e w4 ⟨rfl, kk, os, hw4⟩
        have hb4 : Below w3.heap.size w3 w4 := by rw [hw4]; exact below_itoa w3 kk os
        clear hw4
        have HR4 := Aside0.mk ((hb4.block _ (by omega)).trans HR3.out)
        have HB4 := Aside0.mk (below_then HB3.out (by omega) hb4)
        clear hb4 HR3 HC3 HB3
        obtain ⟨k0, k1, k2, k3⟩ := two_cell HR4.out
        have hne : (!Lib.itoa v == (cutB (upperS a0) 45).toList) = true := by rw [Go.ByteArray.toList_eq, beq_eq_false_iff_ne.mpr HI.out]; rfl
        go_wp2_with (fail)
        refine bodyPost_ret (results_ct rfl _ _ w.heap.size 29 #[.string ⟨#[]⟩, .int .i64 0] (0, 0) _ rfl (two_set HR4.out) Tryz.underlying29 rfl (by kernel_rfl)) rfl ?_
        exact ⟨rfl, (HB4.out.setCell (Nat.le_refl _) _).setCell (Nat.le_refl _) _⟩
    | range =>
      have HA := Aside0.mk ha
      clear ha
      have hpr := HR.out
      rw [show parseS a0 = (⟨#[]⟩, 0, 12) by unfold parseS numOf; rw [HH.out, if_pos rfl, HA.out]] at hpr
      simp only [Prod.mk.injEq] at hpr
      obtain ⟨rfl, rfl, rfl⟩ := hpr
      clear HR
      go_wp2_with (fail)
      obtain ⟨ev, he1, he2⟩ := HE2.out.rng
      (refine (Tryz.strconv_Atoi_range (cutB (upperS a0) 45) (by omega) HA.out ev _ (by rw [World.cell?_alloc_lt _ _ _ (World.block_lt_of_cell? _ _ he1)]; exact he1) he2).mono ?_)
      rintro e w3 ⟨N, rfl, hN, hc3, hb3⟩
      have HR3 := Aside0.mk ((hb3.block _ (by simp; omega)).trans ((Below.heap_alloc _ _ _ (by omega)).trans HR2.out))
      have HB3 := Aside0.mk (below_then (HB2.out.alloc HB2.out.size _) (by simp; omega) hb3)
      clear hb3 hc3 he1 he2
      obtain ⟨k0, k1, k2, k3⟩ := two_cell HR3.out
      go_wp2_with (fail)
      refine bodyPost_ret (results_ct rfl _ _ w.heap.size 29 #[.string ⟨#[]⟩, .int .i64 0] (0, 0) _ rfl (two_set HR3.out) Tryz.underlying29 rfl (by kernel_rfl)) rfl ?_
      exact ⟨rfl, (HB3.out.setCell (Nat.le_refl _) _).setCell (Nat.le_refl _) _⟩
    | _ =>
      have HA := Aside0.mk ha
      clear ha
      have hpr := HR.out
      rw [show parseS a0 = (⟨#[]⟩, 0, 12) by unfold parseS numOf; rw [HH.out, if_pos rfl, HA.out]] at hpr
      simp only [Prod.mk.injEq] at hpr
      obtain ⟨rfl, rfl, rfl⟩ := hpr
      clear HR
      go_wp2_with (fail)
      obtain ⟨ev, he1, he2⟩ := HE2.out.syn
      (refine (Tryz.strconv_Atoi_bad (cutB (upperS a0) 45) (by omega) (fun v e => by rw [HA.out] at e; cases e) (fun e => by rw [HA.out] at e; cases e) ev _ (by rw [World.cell?_alloc_lt _ _ _ (World.block_lt_of_cell? _ _ he1)]; exact he1) he2).mono ?_)
      rintro e w3 ⟨N, rfl, hN, hc3, hb3⟩
      have HR3 := Aside0.mk ((hb3.block _ (by simp; omega)).trans ((Below.heap_alloc _ _ _ (by omega)).trans HR2.out))
      have HB3 := Aside0.mk (below_then (HB2.out.alloc HB2.out.size _) (by simp; omega) hb3)
      clear hb3 hc3 he1 he2
      obtain ⟨k0, k1, k2, k3⟩ := two_cell HR3.out
      go_wp2_with (fail)
      refine bodyPost_ret (results_ct rfl _ _ w.heap.size 29 #[.string ⟨#[]⟩, .int .i64 0] (0, 0) _ rfl (two_set HR3.out) Tryz.underlying29 rfl (by kernel_rfl)) rfl ?_
      exact ⟨rfl, (HB3.out.setCell (Nat.le_refl _) _).setCell (Nat.le_refl _) _⟩
end Go.Proofs.YtgaboenipiojoaaGreatDoor.QAll
end

section
/- strings.FieldsFunc at blanks and commas, and strings.Map, told by bytes: runes that are no ASCII never hold an ASCII byte. -/
namespace Go.Proofs.YtgaboenipiojoaaGreatDoor.Pure
open Go
/-- What a rune that begins with a great byte is: great, and its bytes are. -/
theorem decN_high (n b0 b1 b2 b3 : Nat) (h0 : 128 ≤ b0) (hn : 1 ≤ n) : 128 ≤ (Lib.decodeN n b0 b1 b2 b3).1 ∧ 1 ≤ (Lib.decodeN n b0 b1 b2 b3).2 ∧ (Lib.decodeN n b0 b1 b2 b3).2 ≤ n ∧
    (2 ≤ (Lib.decodeN n b0 b1 b2 b3).2 → 128 ≤ b1) ∧ (3 ≤ (Lib.decodeN n b0 b1 b2 b3).2 → 128 ≤ b2) ∧ (4 ≤ (Lib.decodeN n b0 b1 b2 b3).2 → 128 ≤ b3) ∧ (Lib.decodeN n b0 b1 b2 b3).2 ≤ 4 := by
  unfold Lib.decodeN
  repeat' split
  all_goals (simp only; omega)
theorem dec_high (s : ByteArray) (i : Nat) (hi : i < s.size) (h : 128 ≤ (s.get! i).toNat) : 128 ≤ (Utf8.decode s i).1 ∧ 1 ≤ (Utf8.decode s i).2 ∧ i + (Utf8.decode s i).2 ≤ s.size ∧ ∀ j, i ≤ j → j < i + (Utf8.decode s i).2 → 128 ≤ (s.get! j).toNat := by
  rw [Lib.decode_at]
  obtain ⟨h1, h2, h3, h4, h5, h6, h7⟩ := decN_high (s.size - i) (s.get! i).toNat (s.get! (i + 1)).toNat (s.get! (i + 2)).toNat (s.get! (i + 3)).toNat h (by omega)
  refine ⟨h1, h2, by omega, fun j hj hlt => ?_⟩
  rcases (show j = i ∨ j = i + 1 ∨ j = i + 2 ∨ j = i + 3 by omega) with rfl | rfl | rfl | rfl
  · exact h
  · exact h4 (by omega)
  · exact h5 (by omega)
  · exact h6 (by omega)
theorem dec_low (s : ByteArray) (i : Nat) (h : (s.get! i).toNat < 128) : Utf8.decode s i = ((s.get! i).toNat, 1) := by
  rw [Lib.decode_at]
  simp [Lib.decodeN, h]
def sepB (c : UInt8) : Bool := c == 32 || c == 44
def sepR (r : Nat) : Bool := r == 32 || r == 44
/-- The pieces between blanks and commas, byte by byte. -/
def fieldsGo : List UInt8 → List UInt8 → List (List UInt8)
  | [], cur => if cur = [] then [] else [cur]
  | c :: l, cur => if sepB c then (if cur = [] then fieldsGo l [] else cur :: fieldsGo l []) else fieldsGo l (cur ++ [c])
def fieldsB (l : List UInt8) : List (List UInt8) := fieldsGo l []
theorem fieldsGo_run : ∀ (h l cur : List UInt8), (∀ c ∈ h, sepB c = false) → fieldsGo (h ++ l) cur = fieldsGo l (cur ++ h)
  | [], l, cur, _ => by simp
  | c :: h, l, cur, hs => by
    rw [List.cons_append]
    simp only [fieldsGo]
    rw [hs c (List.mem_cons_self ..), if_neg (by decide), fieldsGo_run h l (cur ++ [c]) (fun x hx => hs x (List.mem_cons_of_mem _ hx))]
    simp
theorem get_list (s : ByteArray) (i : Nat) (h : i < s.size) : s.data.toList.drop i = s.get! i :: s.data.toList.drop (i + 1) := by
  rw [List.drop_eq_getElem_cons (by simpa using h)]
  congr 1
  show _ = s.data[i]!
  have h' : i < s.data.size := h
  rw [getElem!_pos s.data i h']
  simp
theorem sep_high (c : UInt8) (h : 128 ≤ c.toNat) : sepB c = false := by
  unfold sepB
  rw [Bool.or_eq_false_iff]
  constructor <;> rw [beq_eq_false_iff_ne] <;> rintro rfl <;> simp at h
theorem sep_rune (c : UInt8) : sepR c.toNat = sepB c := by
  unfold sepR sepB
  have e : ∀ k : Nat, k < 256 → ((c.toNat == k) = (c == UInt8.ofNat k)) := by
    intro k hk
    by_cases h : c = UInt8.ofNat k
    · subst h
      have : (UInt8.ofNat k).toNat = k := by simp; omega
      simp [this]
    · have h2 : c.toNat ≠ k := by
        intro he
        apply h
        rw [← he]
        simp
      rw [beq_eq_false_iff_ne.2 h, beq_eq_false_iff_ne.2 h2]
  rw [e 32 (by omega), e 44 (by omega)]
  rfl
def ext (s : ByteArray) (x : Nat × Nat) : List UInt8 := (s.data.toList.take x.2).drop x.1
theorem spans_at (s : ByteArray) : ∀ (f pos : Nat) (st : Option Nat) (acc : List (Nat × Nat)) (cur : List UInt8), s.size - pos ≤ f → pos ≤ s.size →
    (st = none ∧ cur = [] ∨ ∃ a, st = some a ∧ a < pos ∧ cur = (s.data.toList.take pos).drop a) →
    (Lib.closeSpans s (Lib.spansFromP sepR s f pos st acc)).map (ext s) = acc.map (ext s) ++ fieldsGo (s.data.toList.drop pos) cur := by
  intro f
  induction f with
  | zero =>
    intro pos st acc cur hf hp hc
    have he : pos = s.size := by omega
    have hd : s.data.toList.drop pos = [] := List.drop_eq_nil_of_le (by simp [he])
    rw [hd]
    unfold Lib.spansFromP Lib.closeSpans fieldsGo
    rcases hc with ⟨rfl, rfl⟩ | ⟨a, rfl, ha, rfl⟩
    · simp
    · have hne : (s.data.toList.take pos).drop a ≠ [] := by
        intro e
        have := congrArg List.length e
        simp at this
        omega
      rw [if_neg hne]
      simp [ext, he]
  | succ f ih =>
    intro pos st acc cur hf hp hc
    unfold Lib.spansFromP
    by_cases hlt : pos < s.size
    · rw [if_pos hlt]
      by_cases hb : (s.get! pos).toNat < 128
      · rw [dec_low s pos hb, get_list s pos hlt]
        simp only [fieldsGo]
        rw [sep_rune]
        cases hs : sepB (s.get! pos) with
        | true =>
          rw [if_pos rfl, if_pos rfl]
          rcases hc with ⟨rfl, rfl⟩ | ⟨a, rfl, ha, rfl⟩
          · rw [if_pos rfl]
            exact ih (pos + 1) none acc [] (by omega) (by omega) (Or.inl ⟨rfl, rfl⟩)
          · have hne : (s.data.toList.take pos).drop a ≠ [] := by
              intro e
              have := congrArg List.length e
              simp at this
              omega
            rw [if_neg hne]
            have := ih (pos + 1) none (acc ++ [(a, pos)]) [] (by omega) (by omega) (Or.inl ⟨rfl, rfl⟩)
            rw [this]
            simp [ext]
        | false =>
          rw [if_neg (by decide), if_neg (by decide)]
          have ht : s.data.toList.take (pos + 1) = s.data.toList.take pos ++ [s.get! pos] := by
            rw [List.take_add_one]
            have h2 : s.data.toList[pos]? = some (s.get! pos) := by
              have := get_list s pos hlt
              have h3 := congrArg (fun l => l[0]?) this
              simpa using h3
            rw [h2]
            rfl
          rcases hc with ⟨rfl, rfl⟩ | ⟨a, rfl, ha, rfl⟩
          · refine ih (pos + 1) (some pos) acc _ (by omega) (by omega) (Or.inr ⟨pos, rfl, by omega, ?_⟩)
            rw [ht, List.drop_append_of_le_length (by simp; omega), List.drop_eq_nil_of_le (by simp; omega)]
          · refine ih (pos + 1) (some a) acc _ (by omega) (by omega) (Or.inr ⟨a, rfl, by omega, ?_⟩)
            rw [ht, List.drop_append_of_le_length (by simp; omega)]
      · obtain ⟨h1, h2, h3, h4⟩ := dec_high s pos hlt (by omega)
        generalize Utf8.decode s pos = d at h1 h2 h3 h4 ⊢
        obtain ⟨r, wd⟩ := d
        simp only at h1 h2 h3 h4 ⊢
        have hr : sepR r = false := by
          unfold sepR
          rw [Bool.or_eq_false_iff]
          constructor <;> rw [beq_eq_false_iff_ne] <;> omega
        rw [hr, if_neg (by decide)]
        have hsp : s.data.toList.drop pos = (s.data.toList.take (pos + wd)).drop pos ++ s.data.toList.drop (pos + wd) := by
          have : s.data.toList = s.data.toList.take (pos + wd) ++ s.data.toList.drop (pos + wd) := (List.take_append_drop _ _).symm
          conv => lhs; rw [this]
          rw [List.drop_append_of_le_length (by simp; omega)]
        have hno : ∀ c ∈ (s.data.toList.take (pos + wd)).drop pos, sepB c = false := by
          intro c hc
          obtain ⟨j, hj, rfl⟩ := List.getElem_of_mem hc
          apply sep_high
          have hl : j < wd := by simp at hj; omega
          have := h4 (pos + j) (by omega) (by omega)
          have hg : ((s.data.toList.take (pos + wd)).drop pos)[j] = s.get! (pos + j) := by
            rw [List.getElem_drop, List.getElem_take]
            have := get_list s (pos + j) (by omega)
            have h3 := congrArg (fun l => l[0]?) this
            have h5 : s.data.toList[pos + j]? = some (s.get! (pos + j)) := by simpa using h3
            obtain ⟨_, h6⟩ := List.getElem?_eq_some_iff.1 h5
            exact h6
          rw [hg]
          exact this
        rw [hsp, fieldsGo_run _ _ _ hno]
        rcases hc with ⟨rfl, rfl⟩ | ⟨a, rfl, ha, rfl⟩
        · refine ih (pos + wd) (some pos) acc _ (by omega) (by omega) (Or.inr ⟨pos, rfl, by omega, by simp⟩)
        · refine ih (pos + wd) (some a) acc _ (by omega) (by omega) (Or.inr ⟨a, rfl, by omega, ?_⟩)
          have : s.data.toList.take (pos + wd) = s.data.toList.take pos ++ (s.data.toList.take (pos + wd)).drop pos := by
            have h7 := (List.take_append_drop pos (s.data.toList.take (pos + wd))).symm
            rw [List.take_take, Nat.min_eq_left (by omega)] at h7
            exact h7
          conv => rhs; rw [this]
          rw [List.drop_append_of_le_length (by simp; omega)]
    · rw [if_neg hlt]
      have he : pos = s.size := by omega
      have hd : s.data.toList.drop pos = [] := List.drop_eq_nil_of_le (by simp [he])
      rw [hd]
      unfold Lib.closeSpans fieldsGo
      rcases hc with ⟨rfl, rfl⟩ | ⟨a, rfl, ha, rfl⟩
      · simp
      · have hne : (s.data.toList.take pos).drop a ≠ [] := by
          intro e
          have := congrArg List.length e
          simp at this
          omega
        rw [if_neg hne]
        simp [ext, he]
theorem fields_bytes (s : ByteArray) : (Lib.goFieldsP sepR s).map (·.data.toList) = fieldsB s.data.toList := by
  have h := spans_at s s.size 0 none [] [] (by omega) (by omega) (Or.inl ⟨rfl, rfl⟩)
  unfold Lib.goFieldsP Lib.spansOfP fieldsB
  rw [List.map_map]
  have e : (fun x : ByteArray => x.data.toList) ∘ (fun x : Nat × Nat => s.extract x.1 x.2) = ext s := by
    funext x
    simp [ext, ByteArray.data_extract, List.drop_take]
  rw [e, h]
  simp
end Go.Proofs.YtgaboenipiojoaaGreatDoor.Pure
end

section
/- Great letters by bytes (out of this session's own texts of the seat of the scripts' laws). -/
set_option linter.unusedVariables false
set_option linter.unusedSimpArgs false
namespace Go.Proofs.YtgaboenipiojoaaGreatDoor.Pure
open Go.RowKit Go.Proofs.YtgaboenipiojoaaGreatDoor.QAll Go.Proofs.YtgaboenipiojoaaGreatDoorW.PrintWords Go.Proofs.YtgaboenipiojoaaGreatDoorW.PrintLast Go.Proofs.YtgaboenipiojoaaGreatDoorW.PrintMore
theorem ba_eq {a b : ByteArray} (h : a.toList = b.toList) : a = b := by
  rw [Go.ByteArray.toList_eq, Go.ByteArray.toList_eq] at h
  cases a; cases b
  congr 1
  exact Array.ext' h
def upB (c : UInt8) : UInt8 := if 97 ≤ c.toNat ∧ c.toNat ≤ 122 then UInt8.ofNat (c.toNat - 32) else c
end Go.Proofs.YtgaboenipiojoaaGreatDoor.Pure
end

section
/- What cmd.Parse tells, told by bytes: of a line without the blanks at its ends. -/
set_option linter.unusedVariables false
set_option linter.unusedSimpArgs false
namespace Go.Proofs.YtgaboenipiojoaaGreatDoor.Pure
open Go Go.RowKit Go.Proofs.YtgaboenipiojoaaGreatDoor.QAll
abbrev L8 := List UInt8
/-- Without the blanks at both ends. -/
def nbL (l : L8) : L8 := l.dropWhile (· == 32)
def nbR (l : L8) : L8 := (l.reverse.dropWhile (· == 32)).reverse
def nb (l : L8) : L8 := nbL (nbR l)
theorem dw_blank (l : L8) (k : Nat) : (List.replicate k (32 : UInt8) ++ l).dropWhile (· == 32) = l.dropWhile (· == 32) := by
  induction k with
  | zero => rfl
  | succ k ih => rw [List.replicate_succ, List.cons_append, List.dropWhile_cons_of_pos (by decide), ih]
theorem dw_form (l : L8) : ∃ k, l = List.replicate k (32 : UInt8) ++ l.dropWhile (· == 32) := by
  induction l with
  | nil => exact ⟨0, rfl⟩
  | cons c l ih =>
    by_cases h : c = 32
    · subst h
      obtain ⟨k, hk⟩ := ih
      refine ⟨k + 1, ?_⟩
      rw [List.dropWhile_cons_of_pos (by decide), List.replicate_succ, List.cons_append, ← hk]
    · refine ⟨0, ?_⟩
      rw [List.dropWhile_cons_of_neg (by simpa using h)]
      rfl
theorem nbR_form (l : L8) : ∃ k, l = nbR l ++ List.replicate k (32 : UInt8) := by
  obtain ⟨k, hk⟩ := dw_form l.reverse
  refine ⟨k, ?_⟩
  have := congrArg List.reverse hk
  rw [List.reverse_reverse, List.reverse_append, List.reverse_replicate] at this
  exact this
theorem nbR_app (l : L8) (k : Nat) : nbR (l ++ List.replicate k (32 : UInt8)) = nbR l := by
  unfold nbR
  rw [List.reverse_append, List.reverse_replicate, dw_blank]
theorem nbL_app (l : L8) (k : Nat) : nbL (List.replicate k (32 : UInt8) ++ l) = nbL l := dw_blank l k
theorem nbR_blank (k : Nat) : nbR (List.replicate k (32 : UInt8)) = [] := by
  have := nbR_app [] k
  rw [List.nil_append] at this
  exact this
theorem nbR_cons (c : UInt8) (l : L8) (h : c ≠ 32 ∨ nbR l ≠ []) : nbR (c :: l) = c :: nbR l := by
  obtain ⟨k, hk⟩ := nbR_form l
  have e : nbR (c :: l) = nbR (c :: nbR l) := by
    conv => lhs; rw [hk]
    rw [← List.cons_append, nbR_app]
  rw [e]
  unfold nbR
  rw [List.reverse_cons]
  generalize hq : l.reverse.dropWhile (· == 32) = q
  have hq0 : q = [] ∨ ∃ x r, q = x :: r ∧ x ≠ 32 := by
    cases q with
    | nil => exact Or.inl rfl
    | cons x r =>
      refine Or.inr ⟨x, r, rfl, ?_⟩
      have := List.head?_dropWhile_not (fun b : UInt8 => b == 32) l.reverse
      rw [hq] at this
      simpa using this
  rw [List.reverse_reverse]
  rcases hq0 with rfl | ⟨x, r, rfl, hx⟩
  · rcases h with h | h
    · simp [List.dropWhile, h]
    · exfalso
      apply h
      unfold nbR
      rw [hq]
      rfl
  · rw [List.cons_append, List.dropWhile_cons_of_neg (by simpa using hx)]
    simp
/-- Leading blanks go first or last: it is all one. -/
theorem nb_comm (l : L8) : nb l = nbR (nbL l) := by
  unfold nb
  induction l with
  | nil => rfl
  | cons c l ih =>
    by_cases hc : c = 32
    · subst hc
      have h1 : nbL (32 :: l) = nbL l := List.dropWhile_cons_of_pos (by decide)
      rw [h1]
      by_cases hn : nbR l = []
      · have h2 : nbR (32 :: l) = [] := by
          obtain ⟨k, hk⟩ := nbR_form l
          rw [hn, List.nil_append] at hk
          rw [hk, ← List.replicate_succ, nbR_blank]
        have h3 : nbR (nbL l) = [] := by
          obtain ⟨k, hk⟩ := nbR_form l
          rw [hn, List.nil_append] at hk
          rw [hk]
          have : nbL (List.replicate k (32 : UInt8)) = [] := by
            have := nbL_app [] k
            rw [List.append_nil] at this
            exact this
          rw [this]
          rfl
        rw [h2, h3]
        rfl
      · rw [nbR_cons 32 l (Or.inr hn)]
        have : nbL (32 :: nbR l) = nbL (nbR l) := List.dropWhile_cons_of_pos (by decide)
        rw [this, ih]
    · have h1 : nbL (c :: l) = c :: l := List.dropWhile_cons_of_neg (by simpa using hc)
      rw [h1, nbR_cons c l (Or.inl hc)]
      exact List.dropWhile_cons_of_neg (by simpa using hc)
theorem nb_app (l : L8) (a b : Nat) : nb (List.replicate a (32 : UInt8) ++ l ++ List.replicate b (32 : UInt8)) = nb l := by
  unfold nb
  rw [nbR_app]
  show nb _ = nb l
  rw [nb_comm, nb_comm, nbL_app]
/-- The next word, and what is left, of a line without blanks at its ends. -/
def wd (m : L8) : L8 := m.takeWhile (· != 32)
def rs (m : L8) : L8 := nb (m.dropWhile (· != 32))
/-- strings.Cut of a line behind TrimLeft. -/
theorem word_nb (l : L8) : (nbL l).takeWhile (· != 32) = wd (nb l) ∧ nb (((nbL l).dropWhile (· != 32)).drop 1) = rs (nb l) := by
  obtain ⟨k, hk⟩ := nbR_form (nbL l)
  have hm : nb l = nbR (nbL l) := nb_comm l
  have tw : ∀ (m : L8) (k : Nat), (m ++ List.replicate k (32 : UInt8)).takeWhile (· != 32) = m.takeWhile (· != 32) := by
    intro m k
    induction m with
    | nil => cases k <;> simp [List.replicate_succ]
    | cons c m ih =>
      by_cases h : c = 32
      · subst h; simp
      · rw [List.cons_append, List.takeWhile_cons_of_pos (by simpa using h), List.takeWhile_cons_of_pos (by simpa using h), ih]
  have dwl : ∀ (m : L8) (k : Nat), (m ++ List.replicate k (32 : UInt8)).dropWhile (· != 32) = m.dropWhile (· != 32) ++ List.replicate k (32 : UInt8) := by
    intro m k
    induction m with
    | nil => cases k <;> simp [List.replicate_succ]
    | cons c m ih =>
      by_cases h : c = 32
      · subst h; simp
      · rw [List.cons_append, List.dropWhile_cons_of_pos (by simpa using h), List.dropWhile_cons_of_pos (by simpa using h), ih]
  have hd : ∀ m : L8, m.dropWhile (· != 32) = [] ∨ ∃ r, m.dropWhile (· != 32) = 32 :: r := by
    intro m
    induction m with
    | nil => exact Or.inl rfl
    | cons c m ih =>
      by_cases h : c = 32
      · subst h; exact Or.inr ⟨m, by simp⟩
      · rw [List.dropWhile_cons_of_pos (by simpa using h)]; exact ih
  rw [hm]
  generalize nbR (nbL l) = m at hk
  rw [hk, tw, dwl]
  refine ⟨rfl, ?_⟩
  unfold rs
  rcases hd m with h | ⟨r, h⟩
  · rw [h, List.nil_append]
    have e1 : ∀ j, nb (List.replicate j (32 : UInt8)) = [] := fun j => by
      have := nb_app [] j 0
      simp only [List.append_nil, List.replicate_zero] at this
      rw [this]
      rfl
    rw [List.drop_replicate, e1]
    rfl
  · rw [h]
    show nb (r ++ List.replicate k 32) = nb (32 :: r)
    have h1 := nb_app r 0 k
    have h2 := nb_app r 1 0
    simp at h1 h2
    rw [h1, h2]
theorem fields_blank (l cur : L8) (k : Nat) : fieldsGo (l ++ List.replicate k (32 : UInt8)) cur = fieldsGo l cur := by
  have e : ∀ k cur, fieldsGo (List.replicate k (32 : UInt8)) cur = fieldsGo [] cur := by
    intro k
    induction k with
    | zero => intro cur; rfl
    | succ k ih =>
      intro cur
      rw [List.replicate_succ]
      simp only [fieldsGo]
      rw [if_pos (by decide), ih]
      split
      · simp [fieldsGo]
      · simp [fieldsGo]
  induction l generalizing cur with
  | nil => exact e k cur
  | cons c l ih =>
    rw [List.cons_append]
    simp only [fieldsGo, ih]
theorem fields_nb (l : L8) : fieldsB l = fieldsB (nb l) := by
  have h1 : ∀ (l : L8) (k : Nat), fieldsB (List.replicate k (32 : UInt8) ++ l) = fieldsB l := by
    intro l k
    induction k with
    | zero => rfl
    | succ k ih =>
      rw [List.replicate_succ, List.cons_append]
      unfold fieldsB at ih ⊢
      simp only [fieldsGo]
      rw [if_pos (by decide), if_pos trivial]
      exact ih
  obtain ⟨k, hk⟩ := nbR_form l
  obtain ⟨j, hj⟩ := dw_form (nbR l)
  have : fieldsB l = fieldsB (nbR l) := by
    conv => lhs; rw [hk]
    exact fields_blank _ _ _
  rw [this]
  conv => lhs; rw [hj]
  rw [h1]
  rfl
structure CmdM where
  k : Int
  n : Int
  dst : ByteArray × Int
  via : List (ByteArray × Int)
  text : L8
def cmd0 (k : Int) : CmdM := ⟨k, 0, (⟨#[]⟩, 0), [], []⟩
/-- Some: what is told, and what is left; or the error. -/
inductive Rd (α : Type) where
  | got (a : α) (r : L8)
  | bad (e : Int)
def Rd.bind {α β : Type} (x : Rd α) (f : α → L8 → Rd β) : Rd β := match x with
  | .got a r => f a r
  | .bad e => .bad e
def wordN (m : L8) : Rd L8 := if m = [] then .bad 4 else .got (wd m) (rs m)
def upI (x : Int) : Int := if 97 ≤ x ∧ x ≤ 122 then x - 32 else x
def upM (l : L8) : L8 := Lib.mapD upI l
def begN (name word : L8) : Bool := !(word == []) && (upM word).isPrefixOf name
def namesN : List L8 := [[67, 79, 78, 78, 69, 67, 84], [68, 73, 83, 67, 79, 78, 78, 69, 67, 84], [67, 79, 78, 86, 69, 82, 83, 69], [77, 89, 67, 65, 76, 76], [85, 78, 80, 82, 79, 84, 79], [66, 69, 65, 67, 79, 78], [77, 72, 69, 65, 82, 68], [83, 84, 65, 84, 85, 83], [80, 65, 67, 76, 69, 78], [77, 65, 88, 70, 82, 65, 77, 69], [70, 82, 65, 67, 75], [82, 69, 84, 82, 89], [83, 69, 78, 68], [72, 69, 76, 80], [87, 73, 68, 69], [76, 73, 78, 75], [77, 79, 78, 73, 84, 79, 82], [80, 65, 82, 65, 77, 83], [67, 76, 69, 65, 82], [67, 79, 85, 78, 84, 83]]
def kindGo (w : L8) : List L8 → Int → Int
  | [], _ => 0
  | n :: l, i => if begN n w then i else kindGo w l (i + 1)
def kindN (w : L8) : Int := kindGo w namesN 1
/-- Between which a command's number must lie. -/
def bndN (k : Int) : Option (Int × Int) :=
  if k = 6 then some (1, 10000) else if k = 9 then some (16, 256) else if k = 10 then some (1, 63) else if k = 11 then some (4, 255) else if k = 12 then some (1, 15) else if k = 16 then some (1, 1000000) else none
def callM (w : L8) : Option (ByteArray × Int) := if (parseS ⟨w.toArray⟩).2.2 = 0 then some ((parseS ⟨w.toArray⟩).1, (parseS ⟨w.toArray⟩).2.1) else none
def numM (w : L8) (lo hi : Int) : Option Int := match Lib.atoiAll w with
  | .ok v => if w.length ≤ 7 ∧ Lib.itoa v = w ∧ lo ≤ v ∧ v ≤ hi then some v else none
  | _ => none
def callN (m : L8) : Rd (ByteArray × Int) := (wordN m).bind fun w r => match callM w with
  | some c => .got c r
  | none => .bad 12
def numN (lo hi : Int) (m : L8) : Rd Int := (wordN m).bind fun w r => match numM w lo hi with
  | some v => .got v r
  | none => .bad 1
def textN (m : L8) : Rd L8 := if m = [] then .bad 4 else .got m []
/-- The digipeaters: i of them are read. -/
def viaGo : List L8 → Nat → List (ByteArray × Int) → Rd (List (ByteArray × Int))
  | [], _, out => .got out []
  | w :: l, i, out => match callM w with
    | none => .bad 12
    | some c => if i < 8 then viaGo l (i + 1) (out ++ [c]) else .bad 11
def viaN (m : L8) : Rd (List (ByteArray × Int)) := (wordN m).bind fun w r =>
  if begN [86, 73, 65] w = true then (if fieldsB r = [] then .bad 4 else viaGo (fieldsB r) 0 []) else .bad 2
def onN (m : L8) : Rd Int := (wordN m).bind fun w r => if upM w = [79, 78] then .got 1 r else if upM w = [79, 70, 70] then .got 0 r else .bad 2
def beaN (m : L8) : Rd (Int × L8) := (wordN m).bind fun w r => if upM w = [79, 70, 70] then .got (0, []) r else match numM w 1 10000 with
  | none => .bad 1
  | some v => (textN r).bind fun t q => .got (v, t) q
def bodyN (k : Int) (r : L8) : Rd CmdM :=
  if k = 0 then .bad 2
  else if k = 1 ∨ k = 5 then (callN r).bind fun c q => if q = [] then .got { cmd0 k with dst := c } q else (viaN q).bind fun v z => .got { cmd0 k with dst := c, via := v } z
  else if k = 6 then (beaN r).bind fun p q => .got { cmd0 k with n := p.1, text := p.2 } q
  else if k = 13 then (textN r).bind fun t q => .got { cmd0 k with text := t } q
  else if k = 15 ∨ k = 17 then (onN r).bind fun v q => .got { cmd0 k with n := v } q
  else match bndN k with
    | some p => (numN p.1 p.2 r).bind fun v q => .got { cmd0 k with n := v } q
    | none => .got (cmd0 k) r
def readN (m : L8) : Rd CmdM := if m = [] then .bad 7 else (wordN m).bind fun w r => (bodyN (kindN w) r).bind fun c q => if q = [] then .got c q else .bad 5
/-- What cmd.Parse tells of a line. -/
def parseN (s : L8) : CmdM × Int := match readN (nb s) with
  | .got c _ => (c, 0)
  | .bad e => (cmd0 0, e)
end Go.Proofs.YtgaboenipiojoaaGreatDoor.Pure
end

section
/- The words of cmd: great letters (cmd.upper over strings.Map), a name's beginning, the predicate of cmd's digipeaters. -/
set_option linter.unusedVariables false
set_option linter.unusedSimpArgs false
namespace Go.Proofs.YtgaboenipiojoaaGreatDoor.QAll
open Go.RowKit Go.Proofs.YtgaboenipiojoaaGreatDoorW.PrintWords Go.Proofs.YtgaboenipiojoaaGreatDoorW.PrintLast Go.Proofs.YtgaboenipiojoaaGreatDoorW.PrintMore
set_option maxHeartbeats 1000000 in
set_option maxRecDepth 100000 in
theorem up1_calls (x : Nat) (hx : x ≤ 1114111) (w : World) :
    Calls Tryz.prog 118 #[.int .i32 (x : Int)] w fun e w' => e = .returned (.int .i32 (Pure.upI x)) ∧ ∃ q, w' = w.drewN q := by
  have hb : (0 : Int) ≤ x := by omega
  have hb2 : (x : Int) ≤ 1114111 := by omega
  by_cases h1 : (97 : Int) ≤ x
  · by_cases h2 : (x : Int) ≤ 122
    · have HX := Aside0.mk (show Pure.upI x = x - 32 by unfold Pure.upI; rw [if_pos ⟨h1, h2⟩])
      go_enter Tryz.func118, Tryz.ntmps118
      go_wp2
      go_ret
      have e : (x : Int) - 32 = (x : Int) - 97 + 65 := by omega
      exact ⟨by rw [HX.out, e]; rfl, ⟨0, rfl⟩⟩
    · have HX := Aside0.mk (show Pure.upI x = x by unfold Pure.upI; rw [if_neg (by omega)])
      go_enter Tryz.func118, Tryz.ntmps118
      go_wp2
      go_ret
      exact ⟨by rw [HX.out]; rfl, ⟨0, rfl⟩⟩
  · have HX := Aside0.mk (show Pure.upI x = x by unfold Pure.upI; rw [if_neg (by omega)])
    go_enter Tryz.func118, Tryz.ntmps118
    go_wp2
    go_ret
    exact ⟨by rw [HX.out]; rfl, ⟨0, rfl⟩⟩
set_option maxHeartbeats 1000000 in
set_option maxRecDepth 100000 in
theorem sep1_calls (x : Nat) (hx : x ≤ 1114111) (w : World) :
    Calls Tryz.prog 93 #[.int .i32 (x : Int)] w fun e w' => e = .returned (.bool (Pure.sepR x)) ∧ ∃ q, w' = w.drewN q := by
  by_cases h1 : (x : Int) = 32
  · have HX := Aside0.mk (show Pure.sepR x = true by rw [show x = 32 by omega]; rfl)
    rw [h1]
    clear h1
    go_enter Tryz.func93, Tryz.ntmps93
    go_wp2
    go_ret
    exact ⟨by rw [HX.out]; rfl, ⟨0, rfl⟩⟩
  · by_cases h2 : (x : Int) = 44
    · have HX := Aside0.mk (show Pure.sepR x = true by rw [show x = 44 by omega]; rfl)
      rw [h2]
      clear h1 h2
      go_enter Tryz.func93, Tryz.ntmps93
      go_wp2
      go_ret
      exact ⟨by rw [HX.out]; rfl, ⟨0, rfl⟩⟩
    · have HX := Aside0.mk (show Pure.sepR x = false by
        unfold Pure.sepR
        have a : x ≠ 32 := by omega
        have b : x ≠ 44 := by omega
        simp [a, b])
      go_enter Tryz.func93, Tryz.ntmps93
      go_wp2
      go_ret
      refine ⟨?_, ⟨0, rfl⟩⟩
      rw [HX.out]
      show Ending.returned (Value.bool ((x : Int) == 32 || (x : Int) == 44)) = _
      rw [show ((x : Int) == 32 || (x : Int) == 44) = false by simp [h1, h2]]
/-- cmd.upper of any text. -/
def upN (s : ByteArray) : ByteArray := ⟨(Pure.upM s.data.toList).toArray⟩
set_option maxHeartbeats 1000000 in
set_option maxRecDepth 100000 in
theorem upper_calls (s : ByteArray) (hs : s.size ≤ 1000000) (w : World) (hE : EnvW w) :
    Calls Tryz.prog 94 #[.string s] w fun e w' => e = .returned (.string (upN s)) ∧ Below w.heap.size w w' := by
  have HM := Aside0.mk (Tryz.strings_Map 118 #[] (enters_of Tryz.func118 (by kernel_rfl) rfl) Pure.upI s w (by omega) (fun W x hx _ => up1_calls x hx W)
    (fun x hx => by unfold Pure.upI; split <;> constructor <;> omega) hE.utf)
  clear hE
  go_enter Tryz.func94, Tryz.ntmps94
  go_wp2_with (go_at_call 39; refine (HM.out).mono ?_; rintro e w' ⟨rfl, hb⟩; have HB := Aside0.mk hb; clear hb)
  go_ret
  exact ⟨rfl, HB.out⟩
theorem begN_eq (n s : ByteArray) (h : s ≠ ⟨#[]⟩) : Pure.begN n.data.toList s.data.toList = Lib.hasPrefix n.data.toList (upN s).data.toList := by
  unfold Pure.begN upN Lib.hasPrefix
  have e : (s.data.toList == []) = false := by
    cases hq : s.data.toList with
    | nil => exact absurd (Pure.ba_eq (a := s) (b := ⟨#[]⟩) (by rw [Go.ByteArray.toList_eq, hq, Go.ByteArray.toList_eq])) h
    | cons => rfl
  rw [e]
  simp
set_option maxHeartbeats 1000000 in
set_option maxRecDepth 100000 in
theorem begins_calls (n s : ByteArray) (hs : s.size ≤ 1000000) (w : World) (hE : EnvW w) :
    Calls Tryz.prog 89 #[.string n, .string s] w fun e w' => e = .returned (.bool (Pure.begN n.data.toList s.data.toList)) ∧ Below w.heap.size w w' := by
  have HE := Aside0.mk hE
  clear hE
  by_cases h : s = ⟨#[]⟩
  · have HX := Aside0.mk (show Pure.begN n.data.toList s.data.toList = false by rw [h]; rfl)
    rw [h] at HX ⊢
    clear h
    go_enter Tryz.func89, Tryz.ntmps89
    go_wp2
    go_ret
    exact ⟨by rw [HX.out]; rfl, Below.refl _ _⟩
  · have HX := Aside0.mk (show Pure.begN n.data.toList s.data.toList = Lib.hasPrefix n.data.toList (upN s).data.toList from begN_eq n s h)
    have hne : ¬ s.toList = [] := fun q => h (Pure.ba_eq (a := s) (b := ⟨#[]⟩) (by rw [q, Go.ByteArray.toList_eq]))
    go_enter Tryz.func89, Tryz.ntmps89
    go_wp2_with (first
      | (go_at_call 94; refine (upper_calls s hs _ HE.out).mono ?_; rintro e w' ⟨rfl, hb⟩; have HB := Aside0.mk hb; clear hb)
      | (go_at_call 10; refine (Tryz.strings_HasPrefix n (upN s) _).mono ?_; rintro e w' ⟨rfl, rfl⟩))
    go_ret
    have hz : s.toList.isEmpty = false := by simpa using hne
    refine ⟨?_, HB.out⟩
    rw [HX.out]
    show Ending.returned (Value.bool (!s.toList.isEmpty && Lib.hasPrefix n.data.toList (upN s).data.toList)) = _
    rw [hz]
    rfl
def nameB (k : Nat) : ByteArray := ⟨(Pure.namesN.getD k []).toArray⟩
def namesV : Array Value := (Pure.namesN.map fun l => Value.string ⟨l.toArray⟩).toArray
def allNames : ByteArray := ⟨(([67, 79, 78, 78, 69, 67, 84, 32, 68, 73, 83, 67, 79, 78, 78, 69, 67, 84, 32, 67, 79, 78, 86, 69, 82, 83, 69, 32, 77, 89, 67, 65, 76, 76].append [32, 85, 78, 80, 82, 79, 84, 79, 32, 66, 69, 65, 67, 79, 78, 32, 77, 72, 69, 65, 82, 68, 32, 83, 84, 65, 84, 85, 83, 32, 80, 65, 67, 76, 69]).append ([78, 32, 77, 65, 88, 70, 82, 65, 77, 69, 32, 70, 82, 65, 67, 75, 32, 82, 69, 84, 82, 89, 32, 83, 69, 78, 68, 32, 72, 69, 76, 80, 32, 87, 73].append [68, 69, 32, 76, 73, 78, 75, 32, 77, 79, 78, 73, 84, 79, 82, 32, 80, 65, 82, 65, 77, 83, 32, 67, 76, 69, 65, 82, 32, 67, 79, 85, 78, 84, 83])).toArray⟩
theorem allNames_fields : Lib.fields allNames.data.toList = Pure.namesN := by kernel_rfl
theorem allNames_ascii : ∀ (j : Nat) b, allNames.data.toList[j]? = some b → b.toNat < 128 := by
  intro j b hj
  have h : (allNames.data.toList.all fun b => decide (b.toNat < 128)) = true := by kernel_rfl
  exact of_decide_eq_true (List.all_eq_true.1 h b (List.mem_of_getElem? hj))
set_option maxHeartbeats 1000000 in
set_option maxRecDepth 100000 in
theorem names_calls (w : World) (hE : EnvW w) :
    Calls Tryz.prog 31 #[] w fun e w' => e = .returned (.slice (some ⟨w.heap.size, 0, none⟩) 20 20) ∧ w' = w.alloc (.cells namesV 9) := by
  have HM := Aside0.mk (Tryz.strings_Fields_laid allNames w (by decide +kernel) allNames_ascii hE.asp)
  clear hE
  rw [allNames_fields] at HM
  go_enter Tryz.func31, Tryz.ntmps31
  go_wp2_with (go_at_call 56; refine (HM.out).mono ?_; rintro e w' ⟨rfl, rfl⟩)
  go_ret
  exact ⟨rfl, rfl⟩
end Go.Proofs.YtgaboenipiojoaaGreatDoor.QAll
end

section
/- cmd's small functions: must (it returns, or it panics), kindOf, Name, bounds. -/
set_option linter.unusedVariables false
set_option linter.unusedSimpArgs false
namespace Go.Proofs.YtgaboenipiojoaaGreatDoor.QAll
open Go.RowKit Go.Proofs.YtgaboenipiojoaaGreatDoorW.PrintWords Go.Proofs.YtgaboenipiojoaaGreatDoorW.PrintLast Go.Proofs.YtgaboenipiojoaaGreatDoorW.PrintMore
/-- What must panics with. -/
abbrev wrongE (e : Int) : Ending := .panicked [{ v := .iface 64 (.int .i64 e), recovered := false }]
set_option maxHeartbeats 1000000 in
set_option maxRecDepth 100000 in
theorem must_ok (e : Int) (w : World) : Calls Tryz.prog 57 #[.bool true, .int .i64 e] w fun x w' => x = .returned (.tuple #[]) ∧ w' = w := by
  go_enter Tryz.func57, Tryz.ntmps57
  go_wp2
  go_end0
  exact ⟨rfl, rfl⟩
set_option maxHeartbeats 1000000 in
set_option maxRecDepth 100000 in
theorem must_bad (e : Int) (w : World) : Calls Tryz.prog 57 #[.bool false, .int .i64 e] w fun x w' => x = wrongE e ∧ w' = w := by
  go_enter Tryz.func57, Tryz.ntmps57
  go_wp2
  exact ⟨rfl, rfl, rfl⟩
theorem bounds_some (k lo hi : Int) (h : Pure.bndN k = some (lo, hi)) (w : World) :
    Calls Tryz.prog 61 #[.int .i64 k] w fun e w' => e = .returned (.tuple #[.int .i64 lo, .int .i64 hi, .bool true]) ∧ w' = w := by
  unfold Pure.bndN at h
  split at h
  · rename_i hk; cases h; subst hk
    go_enter Tryz.func61, Tryz.ntmps61
    go_wp2
    go_ret3
    exact ⟨rfl, rfl⟩
  split at h
  · rename_i hk; cases h; subst hk
    go_enter Tryz.func61, Tryz.ntmps61
    go_wp2
    go_ret3
    exact ⟨rfl, rfl⟩
  split at h
  · rename_i hk; cases h; subst hk
    go_enter Tryz.func61, Tryz.ntmps61
    go_wp2
    go_ret3
    exact ⟨rfl, rfl⟩
  split at h
  · rename_i hk; cases h; subst hk
    go_enter Tryz.func61, Tryz.ntmps61
    go_wp2
    go_ret3
    exact ⟨rfl, rfl⟩
  split at h
  · rename_i hk; cases h; subst hk
    go_enter Tryz.func61, Tryz.ntmps61
    go_wp2
    go_ret3
    exact ⟨rfl, rfl⟩
  split at h
  · rename_i hk; cases h; subst hk
    go_enter Tryz.func61, Tryz.ntmps61
    go_wp2
    go_ret3
    exact ⟨rfl, rfl⟩
  · cases h
theorem bounds_none (k : Int) (h : Pure.bndN k = none) (w : World) :
    Calls Tryz.prog 61 #[.int .i64 k] w fun e w' => e = .returned (.tuple #[.int .i64 0, .int .i64 0, .bool false]) ∧ w' = w := by
  unfold Pure.bndN at h
  split at h; · cases h
  split at h; · cases h
  split at h; · cases h
  split at h; · cases h
  split at h; · cases h
  split at h; · cases h
  go_enter Tryz.func61, Tryz.ntmps61
  go_wp2
  go_ret3
  exact ⟨rfl, rfl⟩
def nameK (k : Int) : ByteArray := if 1 ≤ k ∧ k ≤ 20 then nameB (k - 1).toNat else ⟨#[]⟩
theorem namesV_cell (w : World) (i : Nat) (hi : i < 20) : (w.alloc (.cells namesV 9)).cell? ⟨w.heap.size, i, none⟩ = some (.string (nameB i)) := by
  have h : (w.alloc (.cells namesV 9)).heap[w.heap.size]? = some (.cells namesV 9 (0, 0)) := by
    show (w.heap.push _)[w.heap.size]? = _
    exact Array.getElem?_push_size
  rw [Lib.cell_of_heap h]
  have e : namesV[i]? = some (.string (nameB i)) := by
    unfold namesV nameB
    rw [List.getElem?_toArray, List.getElem?_map, List.getD_eq_getElem?_getD, List.getElem?_eq_getElem (show i < Pure.namesN.length from hi)]
    rfl
  simpa using e
set_option maxHeartbeats 1000000 in
set_option maxRecDepth 100000 in
theorem Name_calls (k : Int) (w : World) (hE : EnvW w) :
    Calls Tryz.prog 8 #[.int .i64 k] w fun e w' => e = .returned (.string (nameK k)) ∧ Below w.heap.size w w' := by
  have HE := Aside0.mk hE
  clear hE
  have HC := Aside0.mk (namesV_cell w)
  have HB := Aside0.mk ((Below.refl w.heap.size w).alloc (Nat.le_refl _) (.cells namesV 9))
  by_cases h1 : k < 1
  · have HX := Aside0.mk (show nameK k = (⟨#[]⟩ : ByteArray) by unfold nameK; rw [if_neg (by omega)])
    go_enter Tryz.func8, Tryz.ntmps8
    go_wp2_with (go_at_call 31; refine (names_calls _ HE.out).mono ?_; rintro e w' ⟨rfl, rfl⟩)
    go_ret
    exact ⟨by rw [HX.out]; rfl, HB.out⟩
  · by_cases h2 : 20 < k
    · have HX := Aside0.mk (show nameK k = (⟨#[]⟩ : ByteArray) by unfold nameK; rw [if_neg (by omega)])
      go_enter Tryz.func8, Tryz.ntmps8
      go_wp2_with (go_at_call 31; refine (names_calls _ HE.out).mono ?_; rintro e w' ⟨rfl, rfl⟩)
      go_ret
      exact ⟨by rw [HX.out]; rfl, HB.out⟩
    · have HX := Aside0.mk (show nameK k = nameB (k - 1).toNat by unfold nameK; rw [if_pos (by omega)])
      obtain ⟨n, hn⟩ := Int.eq_ofNat_of_zero_le (show 0 ≤ k - 1 by omega)
      have hk : k = n + 1 := by omega
      subst hk
      have hc := HC.out n (by omega)
      go_enter Tryz.func8, Tryz.ntmps8
      go_wp2_with (go_at_call 31; refine (names_calls _ HE.out).mono ?_; rintro e w' ⟨rfl, rfl⟩)
      go_ret
      have e : ((n : Int) + 1 - 1).toNat = n := by omega
      rw [e] at HX
      exact ⟨by rw [HX.out]; rfl, HB.out⟩
set_option maxHeartbeats 1000000 in
set_option maxRecDepth 100000 in
theorem kindOf_calls (s : ByteArray) (hs : s.size ≤ 1000000) (w : World) (hE : EnvW w) :
    Calls Tryz.prog 59 #[.string s] w fun e w' => e = .returned (.int .i64 (Pure.kindN s.data.toList)) ∧ Below w.heap.size w w' := by
  have HE := Aside0.mk hE
  clear hE
  have HB := Aside0.mk ((Below.refl w.heap.size w).alloc (Nat.le_refl _) (.cells namesV 9))
  have HC0 := Aside0.mk (fun i (hi : i < 20) => namesV_cell w i hi)
  go_enter Tryz.func59, Tryz.ntmps59
  go_wp2_with (go_at_call 31; refine (names_calls _ HE.out).mono ?_; rintro e w' ⟨rfl, rfl⟩)
  go_loopw [7] (fun i wr => ∃ k : Nat, k ≤ 20 ∧ i = .int .i64 k ∧ Aside0 (Pure.kindN s.data.toList = Pure.kindGo s.data.toList (Pure.namesN.drop k) (k + 1)) ∧ Aside0 (Below w.heap.size w wr) ∧ Aside0 (∀ j : Nat, j < 20 → wr.cell? ⟨w.heap.size, j, none⟩ = some (.string (nameB j)))) (fun i _ => 20 - (intOf i).toNat)
  case atStart => exact ⟨0, Nat.zero_le _, rfl, ⟨rfl⟩, ⟨HB.out⟩, ⟨fun j hj => HC0.out j hj⟩⟩
  case round =>
    obtain ⟨k, hk, rfl, HL, HB, HC⟩ := hrel
    by_cases hlt : k < 20
    · have hcell := HC.out k hlt
      have hd := Aside0.mk (show Pure.namesN.drop k = (nameB k).data.toList :: Pure.namesN.drop (k + 1) by
        rw [List.drop_eq_getElem_cons (show k < Pure.namesN.length from hlt)]
        unfold nameB
        rw [List.getD_eq_getElem?_getD, List.getElem?_eq_getElem (show k < Pure.namesN.length from hlt)]
        rfl)
      have HB2 := Aside0.mk (HE.out.below HB.out)
      cases hl : Pure.begN (nameB k).data.toList s.data.toList with
      | true =>
        have HX := Aside0.mk (show Pure.kindN s.data.toList = (k : Int) + 1 by rw [HL.out, hd.out]; unfold Pure.kindGo; rw [hl]; rfl)
        have HL1 := Aside0.mk hl
        clear hl
        go_wp2_with (go_at_call 89; refine (begins_calls (nameB k) s hs _ HB2.out).mono ?_; rw [HL1.out]; rintro e w' ⟨rfl, hb⟩; have HB3 := Aside0.mk hb; clear hb)
        go_ret
        exact ⟨by rw [HX.out]; rfl, HB.out.trans (HB3.out.mono HB.out.size)⟩
      | false =>
        have HX := Aside0.mk (show Pure.kindN s.data.toList = Pure.kindGo s.data.toList (Pure.namesN.drop (k + 1)) (((k + 1 : Nat) : Int) + 1) by
          rw [HL.out, hd.out, show (((k + 1 : Nat) : Int) + 1) = (k : Int) + 1 + 1 by omega]
          conv => lhs; unfold Pure.kindGo
          rw [hl]
          rfl)
        have HL1 := Aside0.mk hl
        clear hl
        go_wp2_with (go_at_call 89; refine (begins_calls (nameB k) s hs _ HB2.out).mono ?_; rw [HL1.out]; rintro e w' ⟨rfl, hb⟩; have HB3 := Aside0.mk hb; clear hb)
        go_roundw
        case rel => exact ⟨k + 1, by omega, by go_num, ⟨HX.out⟩, ⟨HB.out.trans (HB3.out.mono HB.out.size)⟩, ⟨fun j hj => pw_cell_below HB3.out (HC.out j hj)⟩⟩
        case measure => simp [intOf]; omega
    · obtain rfl : k = 20 := by omega
      have HX := Aside0.mk (show Pure.kindN s.data.toList = 0 by rw [HL.out]; rfl)
      go_wp2
      go_ret
      exact ⟨by rw [HX.out]; rfl, HB.out⟩
end Go.Proofs.YtgaboenipiojoaaGreatDoor.QAll
end

section
/- cmd's reader: what is left of a line lies in the reader's cell; more, word, text. -/
set_option linter.unusedVariables false
set_option linter.unusedSimpArgs false
namespace Go.Proofs.YtgaboenipiojoaaGreatDoor.QAll
open Go.RowKit Go.Proofs.YtgaboenipiojoaaGreatDoorW.PrintWords Go.Proofs.YtgaboenipiojoaaGreatDoorW.PrintLast Go.Proofs.YtgaboenipiojoaaGreatDoorW.PrintMore
/-- All that was there, but the block g, is as it was. -/
structure KB (g : Nat) (w w' : World) : Prop where
  os : w'.os = w.os
  tape : w'.tape = w.tape
  output : w'.output = w.output
  size : w.heap.size ≤ w'.heap.size
  block : ∀ k, k < w.heap.size → k ≠ g → w'.heap[k]? = w.heap[k]?
theorem KB.refl (g : Nat) (w : World) : KB g w w := ⟨rfl, rfl, rfl, Nat.le_refl _, fun _ _ _ => rfl⟩
theorem KB.of_below {g : Nat} {w w' : World} (h : Below w.heap.size w w') : KB g w w' := ⟨h.os, h.tape, h.output, h.size, fun k hk _ => h.block k hk⟩
theorem KB.trans {g : Nat} {a b c : World} (h : KB g a b) (k : KB g b c) : KB g a c :=
  ⟨k.os.trans h.os, k.tape.trans h.tape, k.output.trans h.output, Nat.le_trans h.size k.size, fun j hj hg => (k.block j (Nat.lt_of_lt_of_le hj h.size) hg).trans (h.block j hj hg)⟩
theorem KB.set (g : Nat) (w : World) (u : Value) : KB g w (w.setCell ⟨g, 0, none⟩ u) := by
  have h := (Below.refl g w).setCell (p := ⟨g, 0, none⟩) (Nat.le_refl _) u
  exact ⟨h.os, h.tape, h.output, h.size, fun k _ hk => Below.heap_setCell w ⟨g, 0, none⟩ u k hk⟩
theorem KB.below {g B : Nat} {w0 w w' : World} (h : KB g w w') (hb : Below B w0 w) (hg : B ≤ g) (hB : B ≤ w.heap.size) : Below B w0 w' :=
  hb.trans ⟨h.os, h.tape, h.output, h.size, fun k hk => h.block k (by omega) (by omega)⟩
theorem KB.drewN {g : Nat} {w w' : World} (h : KB g w w') (n : Nat) : KB g w (w'.drewN n) := ⟨h.os, h.tape, h.output, h.size, h.block⟩
/-- The reader's block. -/
def AtG (g : Nat) (s : ByteArray) (w : World) : Prop := w.heap[g]? = some (.cells #[.string s] 67 (0, 0))
theorem AtG.cell {g : Nat} {s : ByteArray} {w : World} (h : AtG g s w) : w.cell? ⟨g, 0, none⟩ = some (.string s) ∧ w.frozen? ⟨g, 0, none⟩ = false := by
  unfold AtG at h
  simp [World.cell?, World.frozen?, h]
theorem AtG.set {g : Nat} {s : ByteArray} {w : World} (h : AtG g s w) (t : ByteArray) : AtG g t (w.setCell ⟨g, 0, none⟩ (.string t)) := by
  unfold AtG at h ⊢
  simp [World.setCell, Array.getElem?_modify, h]
theorem AtG.drewN {g : Nat} {s : ByteArray} {w : World} (h : AtG g s w) (n : Nat) : AtG g s (w.drewN n) := h
theorem AtG.lt {g : Nat} {s : ByteArray} {w : World} (h : AtG g s w) : g < w.heap.size := by
  unfold AtG at h
  rcases Nat.lt_or_ge g w.heap.size with h' | h'
  · exact h'
  · simp [Array.getElem?_eq_none h'] at h
theorem AtG.below {g : Nat} {s : ByteArray} {w w' : World} (h : AtG g s w) (hb : Below w.heap.size w w') : AtG g s w' := (hb.block g h.lt).trans h
/-- What a reader's function comes to: what it tells lies in the value, and what is left in the reader's block. -/
def RdP (g n : Nat) {α : Type} (P : α → Value → World → Prop) (x : Pure.Rd α) (w : World) (e : Ending) (w' : World) : Prop :=
  KB g w w' ∧ match x with
    | .bad k => e = wrongE k
    | .got a r => ∃ v s', e = .returned v ∧ P a v w' ∧ AtG g s' w' ∧ Pure.nb s'.data.toList = r ∧ s'.size ≤ n
theorem idx_tw (c : UInt8) : ∀ l : List UInt8, (Lib.indexByte l c = -1 ∧ l.takeWhile (· != c) = l ∧ l.dropWhile (· != c) = []) ∨ ∃ i : Nat, Lib.indexByte l c = i ∧ l.takeWhile (· != c) = l.take i ∧ l.dropWhile (· != c) = l.drop i
  | [] => Or.inl ⟨rfl, rfl, rfl⟩
  | b :: l => by
    by_cases h : b = c
    · subst h
      exact Or.inr ⟨0, by simp [Lib.indexByte], by simp, by simp⟩
    · have hb : (b == c) = false := by simpa using h
      rcases idx_tw c l with ⟨h1, h2, h3⟩ | ⟨i, h1, h2, h3⟩
      · refine Or.inl ⟨by simp [Lib.indexByte, hb, h1], ?_, ?_⟩
        · rw [List.takeWhile_cons_of_pos (by simpa using h), h2]
        · rw [List.dropWhile_cons_of_pos (by simpa using h), h3]
      · refine Or.inr ⟨i + 1, ?_, ?_, ?_⟩
        · have e : ((i : Int) == -1) = false := by simp
          simp [Lib.indexByte, hb, h1, e]
        · rw [List.takeWhile_cons_of_pos (by simpa using h), h2]; rfl
        · rw [List.dropWhile_cons_of_pos (by simpa using h), h3]; rfl
theorem ext_list (s : ByteArray) (i j : Nat) : (s.extract i j).data.toList = (s.data.toList.take j).drop i := by
  rw [ByteArray.data_extract, Array.toList_extract, List.extract_eq_take_drop, List.drop_take]
theorem cut_tw (s : ByteArray) (c : UInt8) : (cutA s c).data.toList = s.data.toList.takeWhile (· != c) ∧ (cutB s c).data.toList = (s.data.toList.dropWhile (· != c)).drop 1 := by
  rcases idx_tw c s.data.toList with ⟨h1, h2, h3⟩ | ⟨i, h1, h2, h3⟩
  · rw [h2, h3]
    unfold cutA cutB cutHas
    rw [h1]
    exact ⟨rfl, rfl⟩
  · rw [h2, h3]
    unfold cutA cutB cutHas idxOf
    rw [h1]
    have e : decide (0 ≤ (i : Int)) = true := by simp
    rw [e, if_pos rfl, if_pos rfl, ext_list, ext_list]
    refine ⟨by simp, ?_⟩
    rw [List.take_of_length_le (by simp), List.drop_drop, Int.toNat_natCast]
theorem nbL_size (s : ByteArray) : (⟨(Pure.nbL s.data.toList).toArray⟩ : ByteArray).size ≤ s.size := by
  have h := (List.dropWhile_sublist (l := s.data.toList) (· == 32)).length_le
  show (Pure.nbL s.data.toList).toArray.size ≤ s.data.size
  simpa [Pure.nbL] using h
def lftS (s : ByteArray) : ByteArray := ⟨(Pure.nbL s.data.toList).toArray⟩
def trmS (s : ByteArray) : ByteArray := ⟨(Pure.nb s.data.toList).toArray⟩
theorem word_pure (s : ByteArray) : (cutA (lftS s) 32).data.toList = Pure.wd (Pure.nb s.data.toList) ∧ Pure.nb (cutB (lftS s) 32).data.toList = Pure.rs (Pure.nb s.data.toList) := by
  have h := Pure.word_nb s.data.toList
  have k := cut_tw (lftS s) 32
  rw [k.1, k.2]
  exact h
theorem trm_calls (s : ByteArray) (hs : s.size ≤ 1000000) (w : World) :
    Calls Tryz.prog 88 #[.string s, .string ⟨#[32]⟩] w fun e w' => e = .returned (.string (trmS s)) ∧ ∃ q, w' = w.drewN q := by
  refine (Tryz.strings_Trim_one s 32 (by decide) w (by omega)).mono ?_
  rintro e w' ⟨rfl, rfl | rfl⟩
  · exact ⟨rfl, 0, rfl⟩
  · exact ⟨rfl, 1, rfl⟩
theorem trm_empty (s : ByteArray) : ((trmS s).toList = []) ↔ Pure.nb s.data.toList = [] := by
  rw [Go.ByteArray.toList_eq]
  unfold trmS
  simp
theorem trm_list (s : ByteArray) : (trmS s).data.toList = Pure.nb s.data.toList := by
  unfold trmS
  simp
theorem trm_zero (s : ByteArray) (h : Pure.nb s.data.toList = []) : trmS s = ⟨#[]⟩ := by
  unfold trmS
  rw [h]
theorem trm_size (s : ByteArray) : (trmS s).size ≤ s.size := by
  have h1 := (List.dropWhile_sublist (l := Pure.nbR s.data.toList) (· == 32)).length_le
  have h2 := (List.dropWhile_sublist (l := s.data.toList.reverse) (· == 32)).length_le
  show (Pure.nb s.data.toList).toArray.size ≤ s.data.size
  have h3 : (Pure.nbR s.data.toList).length ≤ s.data.toList.length := by unfold Pure.nbR; rw [List.length_reverse]; simpa using h2
  have h4 : (Pure.nb s.data.toList).length ≤ s.data.toList.length := Nat.le_trans h1 h3
  simpa using h4
/-- Is there another word? -/
def moreB (s : ByteArray) : Bool := !(Pure.nb s.data.toList == [])
set_option maxHeartbeats 1000000 in
set_option maxRecDepth 100000 in
theorem more_calls (g : Nat) (s : ByteArray) (hs : s.size ≤ 1000000) (w : World) (hg : AtG g s w) :
    Calls Tryz.prog 58 #[.pointer (some ⟨g, 0, none⟩)] w fun e w' => e = .returned (.bool (moreB s)) ∧ ∃ q, w' = w.drewN q := by
  obtain ⟨hc, hf⟩ := hg.cell
  by_cases h : Pure.nb s.data.toList = []
  · have HX := Aside0.mk (show moreB s = false by unfold moreB; rw [h]; rfl)
    have HT := Aside0.mk (trm_calls s hs)
    rw [trm_zero s h] at HT
    clear h
    go_enter Tryz.func58, Tryz.ntmps58
    go_wp2_with (fail)
    refine (HT.out _).mono ?_
    rintro e w' ⟨rfl, q, rfl⟩
    go_wp2
    go_ret
    exact ⟨by rw [HX.out]; rfl, ⟨q, rfl⟩⟩
  · have HX := Aside0.mk (show moreB s = true by unfold moreB; simpa using h)
    have hne : ¬ (trmS s).toList = [] := fun q => h ((trm_empty s).1 q)
    have hz : (trmS s).toList.isEmpty = false := by simpa using hne
    have HZ := Aside0.mk hz
    clear h
    go_enter Tryz.func58, Tryz.ntmps58
    go_wp2_with (fail)
    refine (trm_calls s hs _).mono ?_
    rintro e w' ⟨rfl, q, rfl⟩
    go_wp2
    go_ret
    refine ⟨?_, ⟨q, rfl⟩⟩
    rw [HX.out]
    first | rfl | (show Ending.returned (Value.bool (!(trmS s).toList.isEmpty)) = _; rw [HZ.out]; rfl)
theorem lft_calls (s : ByteArray) (w : World) :
    Calls Tryz.prog 90 #[.string s, .string ⟨#[32]⟩] w fun e w' => e = .returned (.string (lftS s)) ∧ w' = w := Tryz.strings_TrimLeft_one s 32 (by decide) w
theorem wd_nil (m : List UInt8) (h : m ≠ []) (hb : ∀ r, m ≠ 32 :: r) : Pure.wd m ≠ [] := by
  cases m with
  | nil => exact absurd rfl h
  | cons c l =>
    have hc : c ≠ 32 := fun e => hb l (by rw [e])
    unfold Pure.wd
    rw [List.takeWhile_cons_of_pos (by simpa using hc)]
    simp
theorem nb_head (l : List UInt8) (r : List UInt8) : Pure.nb l ≠ 32 :: r := by
  intro h
  have z := List.head?_dropWhile_not (fun b : UInt8 => b == 32) (Pure.nbR l)
  rw [show List.dropWhile (fun b : UInt8 => b == 32) (Pure.nbR l) = 32 :: r from h] at z
  simp at z
set_option maxHeartbeats 2000000 in
set_option maxRecDepth 100000 in
theorem word_calls (g : Nat) (s : ByteArray) (hs : s.size ≤ 1000000) (w : World) (hg : AtG g s w) :
    Calls Tryz.prog 60 #[.pointer (some ⟨g, 0, none⟩)] w (RdP g s.size (fun a v _ => ∃ t : ByteArray, v = .string t ∧ t.data.toList = a ∧ t.size ≤ s.size) (Pure.wordN (Pure.nb s.data.toList)) w) := by
  obtain ⟨hc, hf⟩ := hg.cell
  have hl := nbL_size s
  have hA := cutA_size (lftS s) 32
  have hB := cutB_size (lftS s) 32
  have hp := word_pure s
  have HG := Aside0.mk (hg.set (lftS s))
  obtain ⟨hc1, hf1⟩ := HG.out.cell
  by_cases h : Pure.nb s.data.toList = []
  · have e : cutA (lftS s) 32 = ⟨#[]⟩ := Pure.ba_eq (by rw [Go.ByteArray.toList_eq, hp.1, h, Go.ByteArray.toList_eq]; rfl)
    have HX := Aside0.mk (show Pure.wordN (Pure.nb s.data.toList) = .bad 4 by unfold Pure.wordN; rw [if_pos h])
    have HC := Aside0.mk (fun W => cut_one (lftS s) 32 W (by have : (lftS s).size ≤ s.size := hl; omega))
    rw [e] at HC
    clear h hp e
    go_enter Tryz.func60, Tryz.ntmps60
    go_wp2_with (fail)
    refine (lft_calls s _).mono ?_
    rintro e w' ⟨rfl, rfl⟩
    go_wp2_with (fail)
    refine (HC.out _).mono ?_
    rintro e w' ⟨rfl, ⟨nd, rfl⟩⟩
    go_wp2_with (fail)
    refine (must_bad 4 _).mono ?_
    rintro e w' ⟨rfl, rfl⟩
    go_wp2
    refine ⟨rfl, ((KB.set g _ _).drewN nd), ?_⟩
    rw [HX.out]
  · have HX := Aside0.mk (show Pure.wordN (Pure.nb s.data.toList) = .got (Pure.wd (Pure.nb s.data.toList)) (Pure.rs (Pure.nb s.data.toList)) by unfold Pure.wordN; rw [if_neg h])
    have HC := Aside0.mk (fun W => cut_one (lftS s) 32 W (by have : (lftS s).size ≤ s.size := hl; omega))
    have hne : ¬ (cutA (lftS s) 32).toList = [] := by
      rw [Go.ByteArray.toList_eq, hp.1]
      exact wd_nil _ h (fun r => nb_head _ r)
    have hz : (cutA (lftS s) 32).toList.isEmpty = false := by simpa using hne
    have HP := Aside0.mk hp
    have HS := Aside0.mk (show (cutA (lftS s) 32).size ≤ s.size ∧ (cutB (lftS s) 32).size ≤ s.size from ⟨by have : (lftS s).size ≤ s.size := hl; omega, by have : (lftS s).size ≤ s.size := hl; omega⟩)
    have HG2 := Aside0.mk (HG.out.set (cutB (lftS s) 32))
    clear h hp hl hA hB
    go_enter Tryz.func60, Tryz.ntmps60
    go_wp2_with (fail)
    refine (lft_calls s _).mono ?_
    rintro e w' ⟨rfl, rfl⟩
    go_wp2_with (fail)
    refine (HC.out _).mono ?_
    rintro e w' ⟨rfl, ⟨nd, rfl⟩⟩
    go_wp2_with (fail)
    try rw [hz]
    refine (must_ok 4 _).mono ?_
    rintro e w' ⟨rfl, rfl⟩
    go_wp2
    go_ret
    refine ⟨?_, ?_⟩
    · exact ((KB.set g _ _).drewN nd).trans (KB.set g _ _)
    · rw [HX.out]
      refine ⟨_, cutB (lftS s) 32, rfl, ⟨_, rfl, HP.out.1, HS.out.1⟩, ?_, HP.out.2, HS.out.2⟩
      exact ((HG.out.drewN nd).set (cutB (lftS s) 32))
set_option maxHeartbeats 1000000 in
set_option maxRecDepth 100000 in
theorem text_calls (g : Nat) (s : ByteArray) (hs : s.size ≤ 1000000) (w : World) (hg : AtG g s w) :
    Calls Tryz.prog 65 #[.pointer (some ⟨g, 0, none⟩)] w (RdP g s.size (fun a v _ => ∃ t : ByteArray, v = .string t ∧ t.data.toList = a ∧ t.size ≤ s.size) (Pure.textN (Pure.nb s.data.toList)) w) := by
  obtain ⟨hc, hf⟩ := hg.cell
  have HS := Aside0.mk (trm_size s)
  by_cases h : Pure.nb s.data.toList = []
  · have HX := Aside0.mk (show Pure.textN (Pure.nb s.data.toList) = .bad 4 by unfold Pure.textN; rw [if_pos h])
    have HT := Aside0.mk (trm_calls s hs)
    rw [trm_zero s h] at HT
    clear h
    go_enter Tryz.func65, Tryz.ntmps65
    go_wp2_with (fail)
    refine (HT.out _).mono ?_
    rintro e w' ⟨rfl, q, rfl⟩
    go_wp2_with (fail)
    refine (must_bad 4 _).mono ?_
    rintro e w' ⟨rfl, rfl⟩
    go_wp2
    refine ⟨rfl, (KB.refl g _).drewN q, ?_⟩
    rw [HX.out]
  · have HX := Aside0.mk (show Pure.textN (Pure.nb s.data.toList) = .got (Pure.nb s.data.toList) [] by unfold Pure.textN; rw [if_neg h])
    have hne : ¬ (trmS s).toList = [] := fun q => h ((trm_empty s).1 q)
    have hz : (trmS s).toList.isEmpty = false := by simpa using hne
    clear h
    go_enter Tryz.func65, Tryz.ntmps65
    go_wp2_with (fail)
    refine (trm_calls s hs _).mono ?_
    rintro e w' ⟨rfl, q, rfl⟩
    go_wp2_with (fail)
    try rw [hz]
    refine (must_ok 4 _).mono ?_
    rintro e w' ⟨rfl, rfl⟩
    go_wp2
    go_ret
    refine ⟨?_, ?_⟩
    · exact ((KB.refl g _).drewN q).trans (KB.set g _ _)
    · rw [HX.out]
      exact ⟨_, ⟨#[]⟩, rfl, ⟨_, rfl, trm_list s, HS.out⟩, ((hg.drewN q).set ⟨#[]⟩), rfl, Nat.zero_le _⟩
end Go.Proofs.YtgaboenipiojoaaGreatDoor.QAll
end

section
/- strconv.Itoa of any number, by the shelf's contract: its digits. -/
set_option linter.unusedVariables false
namespace Go.Proofs.YtgaboenipiojoaaGreatDoor.QAll
open Go.RowKit Go.Shelf Go.Proofs.YtgaboenipiojoaaGreatDoorW.PrintWords Go.Proofs.YtgaboenipiojoaaGreatDoorW.PrintLast Go.Proofs.YtgaboenipiojoaaGreatDoorW.PrintMore
theorem below_grown (w : World) (k : Nat) (os : Array Obj) : Below w.heap.size w (Go.Sort.grow (w.drewN k) os) := Lib.below_grow _ w (Nat.le_refl _) k os
def itoaB (n : Int) : ByteArray := ⟨(Lib.itoa n).toArray⟩
theorem itoa_any (n : Int) (h0 : -9223372036854775808 ≤ n) (h1 : n ≤ 9223372036854775807) (w : World) (hE : EnvW w) :
    Calls Tryz.prog 52 #[.int .i64 n] w fun e w' => e = .returned (.string (itoaB n)) ∧ Below w.heap.size w w' := by
  refine (Tryz.strconv_Itoa n h0 h1 w hE.tab).mono ?_
  rintro e w' ⟨rfl, k, os, rfl⟩
  exact ⟨rfl, below_grown w k os⟩
def strconv_Itoa_52.f (a0 : Int) : Option ByteArray := if -9223372036854775808 ≤ a0 ∧ a0 ≤ 9223372036854775807 then some (itoaB a0) else none
end Go.Proofs.YtgaboenipiojoaaGreatDoor.QAll
end

section
/- strconv.Atoi of any text: the number, and no error; or an error. -/
set_option linter.unusedVariables false
set_option linter.unusedSimpArgs false
namespace Go.Proofs.YtgaboenipiojoaaGreatDoor.QAll
open Go.RowKit Go.Proofs.YtgaboenipiojoaaGreatDoorW.PrintWords Go.Proofs.YtgaboenipiojoaaGreatDoorW.PrintLast Go.Proofs.YtgaboenipiojoaaGreatDoorW.PrintMore
/-- The number that a text is, if it is one. -/
def atoiV (s : ByteArray) : Option Int := match Lib.atoiAll s.data.toList with
  | .ok v => some v
  | _ => none
theorem atoi_any (s : ByteArray) (hs : s.size ≤ 1000000) (w : World) (hE : EnvW w) :
    Calls Tryz.prog 119 #[.string s] w fun e w' => Below w.heap.size w w' ∧ match atoiV s with
      | some v => e = .returned (.tuple #[.int .i64 v, .nilIface])
      | none => ∃ v N, e = .returned (.tuple #[.int .i64 v, .iface 214 (.pointer (some ⟨N, 0, none⟩))]) := by
  unfold atoiV
  by_cases h : ∃ v, Lib.atoiAll s.data.toList = .ok v
  · obtain ⟨v, hv⟩ := h
    rw [hv]
    refine (Tryz.strconv_Atoi_ok s (by omega) v hv w).mono ?_
    rintro e w' ⟨rfl, h⟩
    refine ⟨?_, rfl⟩
    rcases h with rfl | ⟨t, rfl⟩
    · exact Below.refl _ _
    · exact bytes_below (Below.refl _ _) (Nat.le_refl _) _ _
  · have h1 : ∀ v, Lib.atoiAll s.data.toList ≠ .ok v := fun v e => h ⟨v, e⟩
    have hn : (match Lib.atoiAll s.data.toList with
      | .ok v => some v
      | _ => (none : Option Int)) = none := by
      cases e : Lib.atoiAll s.data.toList <;> first | rfl | exact absurd e (h1 _)
    rw [hn]
    by_cases h2 : Lib.atoiAll s.data.toList = .range
    · obtain ⟨ev, he1, he2⟩ := hE.rng
      refine (Tryz.strconv_Atoi_range s (by omega) h2 ev w he1 he2).mono ?_
      rintro e w' ⟨N, rfl, _, _, hb⟩
      exact ⟨hb, _, N, rfl⟩
    · obtain ⟨ev, he1, he2⟩ := hE.syn
      refine (Tryz.strconv_Atoi_bad s (by omega) h1 h2 ev w he1 he2).mono ?_
      rintro e w' ⟨N, rfl, _, _, hb⟩
      exact ⟨hb, _, N, rfl⟩
end Go.Proofs.YtgaboenipiojoaaGreatDoor.QAll
end

section
/- cmd's called, numbered; the reader's call, number. -/
set_option linter.unusedVariables false
set_option linter.unusedSimpArgs false
namespace Go.Proofs.YtgaboenipiojoaaGreatDoor.QAll
open Go.RowKit Go.Proofs.YtgaboenipiojoaaGreatDoorW.PrintWords Go.Proofs.YtgaboenipiojoaaGreatDoorW.PrintLast Go.Proofs.YtgaboenipiojoaaGreatDoorW.PrintMore
/-- A function that tells, or breaks off. -/
def OptP {α : Type} (enc : α → Value) (err : Int) (o : Option α) (e : Ending) : Prop := match o with
  | some c => e = .returned (enc c)
  | none => e = wrongE err
def encC (c : ByteArray × Int) : Value := .agg #[.string c.1, .int .i64 c.2]
def encI (v : Int) : Value := .int .i64 v
/-- The reader's block, in a world that holds what the walks ask of the variables. -/
structure At0 (w0 : World) (g : Nat) (s : ByteArray) (w : World) : Prop where
  E : EnvW w0
  b : Below w0.heap.size w0 w
  hg : w0.heap.size ≤ g
  a : AtG g s w
theorem At0.env {w0 : World} {g : Nat} {s : ByteArray} {w : World} (h : At0 w0 g s w) : EnvW w := h.E.below h.b
theorem At0.kb {w0 : World} {g : Nat} {s t : ByteArray} {w w' : World} (h : At0 w0 g s w) (k : KB g w w') (a : AtG g t w') : At0 w0 g t w' :=
  ⟨h.E, k.below h.b h.hg h.b.size, h.hg, a⟩
theorem At0.below {w0 : World} {g : Nat} {s : ByteArray} {w w' : World} (h : At0 w0 g s w) (k : Below w.heap.size w w') : At0 w0 g s w' :=
  h.kb (KB.of_below k) (h.a.below k)
set_option maxHeartbeats 2000000 in
set_option maxRecDepth 100000 in
theorem called_calls (t : ByteArray) (hs : t.size ≤ 1000000) (w : World) (hE : EnvW w) :
    Calls Tryz.prog 92 #[.string t] w fun e w' => Below w.heap.size w w' ∧ OptP encC 12 (Pure.callM t.data.toList) e := by
  have HE := Aside0.mk hE
  clear hE
  have hu29 := Tryz.underlying29
  obtain ⟨r1, r2, r3, hr⟩ : ∃ r1 r2 r3, parseS t = (r1, r2, r3) := ⟨_, _, _, rfl⟩
  have et : (⟨t.data.toList.toArray⟩ : ByteArray) = t := by simp
  have HP := Aside0.mk (show call_Parse.f t = some (r1, r2, r3) by unfold call_Parse.f; rw [if_pos (by omega), hr])
  have hb0 := (Below.refl w.heap.size w).alloc (Nat.le_refl _) (.cells #[.string ⟨#[]⟩, .int .i64 0] 29)
  have HE1 := Aside0.mk (HE.out.below hb0)
  have HB0 := Aside0.mk hb0
  clear hb0
  by_cases h : r3 = 0
  · subst h
    have HX := Aside0.mk (show Pure.callM t.data.toList = some (r1, r2) by unfold Pure.callM; rw [et, hr]; rfl)
    clear hr et
    go_enter Tryz.func92, Tryz.ntmps92
    go_wp2_with (fail)
    refine (call_Parse.calls t r1 r2 0 _ HE1.out HP.out).mono ?_
    rintro e w1 ⟨rfl, hb1⟩
    have hz1 : w.heap.size < w1.heap.size := by have := hb1.size; simp only [World.size_alloc] at *; omega
    have HB1 := Aside0.mk (show Below w.heap.size w w1 from below_then HB0.out (by simp) hb1)
    have HR1 := Aside0.mk (show w1.heap[w.heap.size]? = some (.cells #[.string ⟨#[]⟩, .int .i64 0] 29 (0, 0)) by
      rw [hb1.block _ (by simp)]
      exact heap_alloc_new w _)
    clear hb1
    go_wp2_with (fail)
    refine (must_ok 12 _).mono ?_
    rintro e w2 ⟨rfl, hw2⟩
    have HA := Aside0.mk (show w2.heap[w.heap.size]? = some (.cells #[.string ⟨#[]⟩, .int .i64 0] 29 (0, 0)) by rw [hw2]; exact (Below.heap_alloc _ _ _ hz1).trans HR1.out)
    have HC := Aside0.mk (show w2.heap[w1.heap.size]? = some (.cells #[.string r1, .int .i64 r2] 29 (0, 0)) by rw [hw2]; exact heap_alloc_new w1 _)
    have HBA := Aside0.mk (show Below w.heap.size w w2 by rw [hw2]; exact HB1.out.alloc (by omega) _)
    clear hw2
    obtain ⟨k0, k1, k2, k3⟩ := two_cell HA.out
    obtain ⟨c0, c1, c2, c3⟩ := two_cell HC.out
    go_wp2
    refine bodyPost_ret (results_single rfl (.cell w.heap.size 29 #[.string r1, .int .i64 r2] (0, 0) _ rfl (two_set HA.out) Tryz.underlying29 rfl (by kernel_rfl) .nil)) rfl ?_
    rw [HX.out]
    exact ⟨(HBA.out.setCell (Nat.le_refl _) _).setCell (Nat.le_refl _) _, rfl⟩
  · have HX := Aside0.mk (show Pure.callM t.data.toList = none by unfold Pure.callM; rw [et, hr]; exact if_neg h)
    clear hr et
    go_enter Tryz.func92, Tryz.ntmps92
    go_wp2_with (fail)
    refine (call_Parse.calls t r1 r2 r3 _ HE1.out HP.out).mono ?_
    rintro e w1 ⟨rfl, hb1⟩
    have HB1 := Aside0.mk (show Below w.heap.size w w1 from below_then HB0.out (by simp) hb1)
    clear hb1
    go_wp2_with (fail)
    rw [show (r3 == 0) = false by simpa using h]
    refine (must_bad 12 _).mono ?_
    rintro e w2 ⟨rfl, rfl⟩
    go_wp2
    refine ⟨rfl, ?_⟩
    rw [HX.out]
    exact ⟨HB1.out.alloc (by have := HB1.out.size; omega) _, rfl⟩
/-- The number of a word, between two. -/
theorem numM_cases (t : ByteArray) (lo hi : Int) (v : Int) (h : atoiV t = some v) : Pure.numM t.data.toList lo hi = if t.size ≤ 7 ∧ itoaB v = t ∧ lo ≤ v ∧ v ≤ hi then some v else none := by
  unfold atoiV at h
  unfold Pure.numM
  cases e : Lib.atoiAll t.data.toList <;> rw [e] at h <;> cases h
  have e1 : t.data.toList.length = t.size := by simp
  have e2 : (Lib.itoa v = t.data.toList) ↔ (itoaB v = t) := by
    unfold itoaB
    constructor
    · intro q; rw [q]
    · intro q; rw [← q]
  simp only [e1, e2]
set_option maxHeartbeats 2000000 in
set_option maxRecDepth 100000 in
theorem numbered_calls (t : ByteArray) (lo hi : Int) (hs : t.size ≤ 1000000) (w : World) (hE : EnvW w) :
    Calls Tryz.prog 95 #[.string t, .int .i64 lo, .int .i64 hi] w fun e w' => Below w.heap.size w w' ∧ OptP encI 1 (Pure.numM t.data.toList lo hi) e := by
  have HE := Aside0.mk hE
  have HA := Aside0.mk (atoi_any t hs w hE)
  clear hE
  cases hv : atoiV t with
  | none =>
    have HX := Aside0.mk (show Pure.numM t.data.toList lo hi = none by
      unfold atoiV at hv
      unfold Pure.numM
      cases e : Lib.atoiAll t.data.toList <;> rw [e] at hv <;> first | rfl | cases hv)
    rw [hv] at HA
    clear hv
    go_enter Tryz.func95, Tryz.ntmps95
    go_wp2_with (fail)
    refine (HA.out).mono ?_
    rintro e w1 ⟨hb1, v, M, rfl⟩
    have HB1 := Aside0.mk hb1
    clear hb1
    go_wp2_with (fail)
    refine (must_bad 1 _).mono ?_
    rintro e w2 ⟨rfl, rfl⟩
    go_wp2
    refine ⟨rfl, ?_⟩
    rw [HX.out]
    exact ⟨HB1.out, rfl⟩
  | some v =>
    have hbnd : -9223372036854775808 ≤ v ∧ v ≤ 9223372036854775807 := by
      unfold atoiV at hv
      cases e : Lib.atoiAll t.data.toList <;> rw [e] at hv <;> cases hv
      exact atoi_bounds e
    have hX := numM_cases t lo hi v hv
    rw [hv] at HA
    clear hv
    by_cases h1 : t.size ≤ 7
    · by_cases h2 : itoaB v = t
      · have HI := Aside0.mk (fun W (hW : EnvW W) => itoa_any v hbnd.1 hbnd.2 W hW)
        rw [h2] at HI
        by_cases h3 : lo ≤ v
        · by_cases h4 : v ≤ hi
          · have HX := Aside0.mk (show Pure.numM t.data.toList lo hi = some v by rw [hX, if_pos ⟨h1, h2, h3, h4⟩])
            clear hX h2
            go_enter Tryz.func95, Tryz.ntmps95
            go_wp2_with (fail)
            refine (HA.out).mono ?_
            rintro e w1 ⟨hb1, rfl⟩
            have HB1 := Aside0.mk hb1
            clear hb1
            go_wp2_with (fail)
            refine (HI.out _ (HE.out.below HB1.out)).mono ?_
            rintro e w2 ⟨rfl, hb2⟩
            have HB2 := Aside0.mk (below_then HB1.out HB1.out.size hb2)
            clear hb2
            go_wp2_with (fail)
            refine (must_ok 1 _).mono ?_
            rintro e w3 ⟨rfl, rfl⟩
            go_wp2
            go_ret
            rw [HX.out]
            exact ⟨HB2.out, rfl⟩
          · skip
            have HX := Aside0.mk (show Pure.numM t.data.toList lo hi = none by rw [hX, if_neg (fun q => h4 q.2.2.2)])
            clear hX h2
            go_enter Tryz.func95, Tryz.ntmps95
            go_wp2_with (fail)
            refine (HA.out).mono ?_
            rintro e w1 ⟨hb1, rfl⟩
            have HB1 := Aside0.mk hb1
            clear hb1
            go_wp2_with (fail)
            refine (HI.out _ (HE.out.below HB1.out)).mono ?_
            rintro e w2 ⟨rfl, hb2⟩
            have HB2 := Aside0.mk (below_then HB1.out HB1.out.size hb2)
            clear hb2
            go_wp2_with (fail)
            rw [show decide (v ≤ hi) = false by simpa using h4]
            refine (must_bad 1 _).mono ?_
            rintro e w3 ⟨rfl, rfl⟩
            go_wp2
            refine ⟨rfl, ?_⟩
            rw [HX.out]
            exact ⟨HB2.out, rfl⟩
        · skip
          have HX := Aside0.mk (show Pure.numM t.data.toList lo hi = none by rw [hX, if_neg (fun q => h3 q.2.2.1)])
          clear hX h2
          go_enter Tryz.func95, Tryz.ntmps95
          go_wp2_with (fail)
          refine (HA.out).mono ?_
          rintro e w1 ⟨hb1, rfl⟩
          have HB1 := Aside0.mk hb1
          clear hb1
          go_wp2_with (fail)
          refine (HI.out _ (HE.out.below HB1.out)).mono ?_
          rintro e w2 ⟨rfl, hb2⟩
          have HB2 := Aside0.mk (below_then HB1.out HB1.out.size hb2)
          clear hb2
          go_wp2_with (fail)
          refine (must_bad 1 _).mono ?_
          rintro e w3 ⟨rfl, rfl⟩
          go_wp2
          refine ⟨rfl, ?_⟩
          rw [HX.out]
          exact ⟨HB2.out, rfl⟩
      · have HI := Aside0.mk (fun W (hW : EnvW W) => itoa_any v hbnd.1 hbnd.2 W hW)
        have hz : ¬ (itoaB v).toList = t.toList := fun q => h2 (Pure.ba_eq q)
        have HX := Aside0.mk (show Pure.numM t.data.toList lo hi = none by rw [hX, if_neg (fun q => h2 q.2.1)])
        clear hX
        go_enter Tryz.func95, Tryz.ntmps95
        go_wp2_with (fail)
        refine (HA.out).mono ?_
        rintro e w1 ⟨hb1, rfl⟩
        have HB1 := Aside0.mk hb1
        clear hb1
        go_wp2_with (fail)
        refine (HI.out _ (HE.out.below HB1.out)).mono ?_
        rintro e w2 ⟨rfl, hb2⟩
        have HB2 := Aside0.mk (below_then HB1.out HB1.out.size hb2)
        clear hb2
        go_wp2_with (fail)
        skip
        refine (must_bad 1 _).mono ?_
        rintro e w3 ⟨rfl, rfl⟩
        go_wp2
        refine ⟨rfl, ?_⟩
        rw [HX.out]
        exact ⟨HB2.out, rfl⟩
    · skip
      have HX := Aside0.mk (show Pure.numM t.data.toList lo hi = none by rw [hX, if_neg (fun q => h1 q.1)])
      clear hX
      go_enter Tryz.func95, Tryz.ntmps95
      go_wp2_with (fail)
      refine (HA.out).mono ?_
      rintro e w1 ⟨hb1, rfl⟩
      have HB1 := Aside0.mk hb1
      clear hb1
      go_wp2_with (fail)
      refine (must_bad 1 _).mono ?_
      rintro e w3 ⟨rfl, rfl⟩
      go_wp2
      refine ⟨rfl, ?_⟩
      rw [HX.out]
      exact ⟨HB1.out, rfl⟩
set_option maxHeartbeats 2000000 in
set_option maxRecDepth 100000 in
theorem call_calls (w0 : World) (g : Nat) (s : ByteArray) (hs : s.size ≤ 1000000) (w : World) (h0 : At0 w0 g s w) :
    Calls Tryz.prog 62 #[.pointer (some ⟨g, 0, none⟩)] w (RdP g s.size (fun a v _ => v = encC a) (Pure.callN (Pure.nb s.data.toList)) w) := by
  have H0 := Aside0.mk h0
  clear h0
  have hu29 := Tryz.underlying29
  have hb0 := (Below.refl w.heap.size w).alloc (Nat.le_refl _) (.cells #[.string ⟨#[]⟩, .int .i64 0] 29)
  have H1 := Aside0.mk (H0.out.below hb0)
  have HB0 := Aside0.mk (KB.of_below (g := g) hb0)
  have hgl := H0.out.a.lt
  clear hb0
  have HW := Aside0.mk (word_calls g s hs _ H1.out.a)
  cases hw : Pure.wordN (Pure.nb s.data.toList) with
  | bad k =>
    have HX := Aside0.mk (show Pure.callN (Pure.nb s.data.toList) = .bad k by simp only [Pure.callN, hw, Pure.Rd.bind])
    rw [hw] at HW
    clear hw
    go_enter Tryz.func62, Tryz.ntmps62
    go_wp2_with (fail)
    refine HW.out.mono ?_
    rintro e w1 ⟨hk, he⟩
    obtain rfl : e = wrongE k := he
    have HK := Aside0.mk (HB0.out.trans hk)
    clear hk
    go_wp2
    refine ⟨rfl, HK.out, ?_⟩
    rw [HX.out]
  | got a r =>
    have HX1 := Aside0.mk (show Pure.callM a = none → Pure.callN (Pure.nb s.data.toList) = .bad 12 from fun hc => by simp only [Pure.callN, hw, Pure.Rd.bind, hc])
    have HX2 := Aside0.mk (show ∀ c, Pure.callM a = some c → Pure.callN (Pure.nb s.data.toList) = .got c r from fun c hc => by simp only [Pure.callN, hw, Pure.Rd.bind, hc])
    rw [hw] at HW
    clear hw
    go_enter Tryz.func62, Tryz.ntmps62
    go_wp2_with (fail)
    refine HW.out.mono ?_
    rintro e w1 ⟨hk, v, s', rfl, ⟨t, rfl, ht, hts⟩, ha, hr, hs'⟩
    have H2 := Aside0.mk (H1.out.kb hk ha)
    have HK := Aside0.mk (HB0.out.trans hk)
    have HR1 := Aside0.mk (show w1.heap[w.heap.size]? = some (.cells #[.string ⟨#[]⟩, .int .i64 0] 29 (0, 0)) by
      rw [hk.block _ (by simp) (by omega)]
      exact heap_alloc_new w _)
    have HC := Aside0.mk (called_calls t (by omega) w1 H2.out.env)
    rw [ht] at HC
    have HF := Aside0.mk (And.intro hr hs')
    clear hk ha hr hs'
    go_wp2_with (fail)
    refine HC.out.mono ?_
    rintro e w2 ⟨hb2, he⟩
    have H3 := Aside0.mk (H2.out.below hb2)
    have HK3 := Aside0.mk (HK.out.trans (KB.of_below hb2))
    have HR2 := Aside0.mk ((hb2.block _ (by have := HR1.out; rcases Nat.lt_or_ge w.heap.size w1.heap.size with q | q; · exact q
                                            · simp [Array.getElem?_eq_none q] at this)).trans HR1.out)
    clear hb2
    cases hc : Pure.callM a with
    | none =>
      rw [hc] at he
      obtain rfl : e = wrongE 12 := he
      have HX := Aside0.mk (HX1.out hc)
      clear hc HX1 HX2
      go_wp2
      refine ⟨rfl, HK3.out, ?_⟩
      rw [HX.out]
    | some c =>
      rw [hc] at he
      obtain rfl : e = .returned (encC c) := he
      have HX := Aside0.mk (HX2.out c hc)
      clear hc HX1 HX2
      unfold encC
      obtain ⟨k0, k1, k2, k3⟩ := two_cell HR2.out
      go_wp2
      refine bodyPost_ret (results_single rfl (.cell w.heap.size 29 #[.string c.1, .int .i64 c.2] (0, 0) _ rfl (two_set HR2.out) Tryz.underlying29 rfl (by kernel_rfl) .nil)) rfl ?_
      have HB5 := (((Below.refl w.heap.size w2).setCell (p := ⟨w.heap.size, 0, none⟩) (Nat.le_refl _) (.string c.1)).setCell (p := ⟨w.heap.size, 1, none⟩) (Nat.le_refl _) (.int .i64 c.2))
      refine ⟨⟨HB5.os.trans HK3.out.os, HB5.tape.trans HK3.out.tape, HB5.output.trans HK3.out.output, Nat.le_trans HK3.out.size HB5.size, fun k hk hg => (HB5.block k hk).trans (HK3.out.block k hk hg)⟩, ?_⟩
      rw [HX.out]
      exact ⟨_, s', rfl, rfl, (HB5.block g hgl).trans H3.out.a, HF.out.1, HF.out.2⟩
end Go.Proofs.YtgaboenipiojoaaGreatDoor.QAll
end
