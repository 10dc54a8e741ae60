/- Elements, slices, strings, lengths, by the runner. -/
import Derived.Test.YtffccgnhdpjlaaaGreatDoorEvE
import Derived.Laws.Strings
set_option linter.unusedVariables false
set_option linter.unusedSimpArgs false
namespace Go.Proofs.YtffccgnhdpjlaaaGreatDoor.Ev
open Go Go.RowKit
/-! ### bytes -/
theorem bs_size (l : List Nat) : (bs l).size = l.length := by
  show (l.map UInt8.ofNat).toArray.size = _
  simp
theorem bs_list (l : List Nat) : (bs l).data.toList = l.map UInt8.ofNat := by simp [bs]
theorem bs_toList (l : List Nat) : (bs l).toList = l.map UInt8.ofNat := by rw [Go.ByteArray.toList_eq, bs_list]
theorem ba_ext {a b : ByteArray} (h : a.data.toList = b.data.toList) : a = b := by
  obtain ⟨a⟩ := a
  obtain ⟨b⟩ := b
  congr 1
  exact Array.ext' h
theorem bs_append (l m : List Nat) : bs l ++ bs m = bs (l ++ m) := by
  apply ba_ext
  rw [bs_list, List.map_append, ← bs_list, ← bs_list]
  simp
theorem bs_extract (l : List Nat) (i j : Nat) : (bs l).extract i j = bs ((l.take j).drop i) := by
  apply ba_ext
  rw [bs_list, ByteArray.data_extract, Array.toList_extract, List.extract_eq_take_drop, bs_list, ← List.drop_take, ← List.map_take, ← List.map_drop]
theorem bs_inj : ∀ {l m : List Nat}, (∀ c ∈ l, c < 256) → (∀ c ∈ m, c < 256) → l.map UInt8.ofNat = m.map UInt8.ofNat → l = m
  | [], [], _, _, _ => rfl
  | [], _ :: _, _, _, h => by simp at h
  | _ :: _, [], _, _, h => by simp at h
  | a :: l, b :: m, hl, hm, h => by
    simp only [List.map_cons, List.cons.injEq] at h
    have ha := hl a (List.mem_cons_self ..)
    have hb := hm b (List.mem_cons_self ..)
    have e : a = b := by
      have := congrArg UInt8.toNat h.1
      simpa [Nat.mod_eq_of_lt ha, Nat.mod_eq_of_lt hb] using this
    rw [e, bs_inj (fun c hc => hl c (List.mem_cons_of_mem _ hc)) (fun c hc => hm c (List.mem_cons_of_mem _ hc)) h.2]
/-- Are two lists of bytes alike? -/
noncomputable def nbeq : List Nat → List Nat → Bool
  | [], [] => true
  | a :: l, b :: m => bif Nat.beq a b then nbeq l m else false
  | _, _ => false
theorem nbeq_eq : ∀ (l m : List Nat), nbeq l m = decide (l = m)
  | [], [] => rfl
  | [], _ :: _ => rfl
  | _ :: _, [] => rfl
  | a :: l, b :: m => by
    unfold nbeq
    cases h : Nat.beq a b with
    | true =>
      have := Nat.eq_of_beq_eq_true h
      subst this
      rw [cond_true, nbeq_eq l m]
      simp
    | false =>
      have := Nat.ne_of_beq_eq_false h
      simp [this]
theorem bs_beq {l m : List Nat} (hl : ∀ c ∈ l, c < 256) (hm : ∀ c ∈ m, c < 256) : ((bs l).toList == (bs m).toList) = nbeq l m := by
  rw [nbeq_eq, bs_toList, bs_toList]
  by_cases h : l = m
  · subst h; simp
  · simp only [h, decide_false, beq_eq_false_iff_ne]
    exact fun e => h (bs_inj hl hm e)
section
variable {P : Program} {σ : Sg} {nm : Nat} {w : World} {H : Tr AO}
/-- A whole number that is none below nought. -/
noncomputable def natOf : Option AV → Option Nat
  | some (.e (.lf (.i _ (.ofNat n)))) => some n
  | _ => none
theorem natOf_ok {x : Option AV} {v : Value} {n : Nat} (hx : ∀ a, x = some a → a.R σ v) (h : natOf x = some n) : ∃ k, v = .int k (n : Int) := by
  unfold natOf at h
  split at h
  · obtain rfl := Option.some.inj h
    exact ⟨_, hx _ rfl⟩
  · cases h
noncomputable def evIndexAddr (P : Program) (t : TypeId) (x i : Option AV) : Option Sf := match natOf i with
  | some j => match x with
    | some (.e (.lf (.sl (some (n, o)) len sz))) => match P.underlying t with
      | some (.slice e) => match P.info? e with
        | some ie => bif Nat.beq ie.size sz && Nat.blt j len then some (.v (.e (.lf (.p (some (n, o + j * sz)))))) else none
        | none => none
      | _ => none
    | some (.e (.lf (.p (some (n, o))))) => match P.underlying t with
      | some (.array len e) => match P.info? e with
        | some ie => bif Nat.blt j len then some (.v (.e (.lf (.p (some (n, o + j * ie.size)))))) else none
        | none => none
      | _ => none
    | _ => none
  | none => none
theorem evIndexAddr_ok {t : TypeId} {x i : Option AV} {v u : Value} {r : Sf} (hx : ∀ a, x = some a → a.R σ v) (hi : ∀ a, i = some a → a.R σ u) (h : evIndexAddr P t x i = some r) : SfOk σ nm w ((Instr.indexAt t v u).run P w) r := by
  unfold evIndexAddr at h
  cases hj : natOf i with
  | none => rw [hj] at h; cases h
  | some j =>
    rw [hj] at h
    dsimp only at h
    obtain ⟨k, rfl⟩ := natOf_ok hi hj
    split at h
    · rename_i n o len sz
      obtain ⟨B, hB, hv⟩ := hx _ rfl
      split at h
      · rename_i e hu
        cases hie : P.info? e with
        | none => rw [hie] at h; cases h
        | some ie =>
          rw [hie] at h
          dsimp only at h
          cases hc : (Nat.beq ie.size sz && Nat.blt j len) with
          | false => rw [hc] at h; cases h
          | true =>
            rw [hc] at h
            simp only [cond_true, Option.some.injEq] at h
            subst h
            simp only [Bool.and_eq_true] at hc
            have hs := Nat.eq_of_beq_eq_true hc.1
            have hlt : j < len := Nat.le_of_ble_eq_true hc.2
            rcases hv with ⟨c, rfl, -⟩ | ⟨h0, -⟩
            · refine ⟨.pointer (some ⟨B.b, B.base + o + j * sz, none⟩), ?_, _, ⟨B, hB, by simp [Nat.add_assoc]⟩, rfl⟩
              simp [Instr.indexAt, asIntOf, run_underlying hu, hlt, sizeOf, typeInfo, hie, hs, add_at]
            · omega
      · cases h
    · rename_i n o
      obtain ⟨a, ⟨B, hB, rfl⟩, rfl⟩ := hx _ rfl
      split at h
      · rename_i len e hu
        cases hie : P.info? e with
        | none => rw [hie] at h; cases h
        | some ie =>
          rw [hie] at h
          dsimp only at h
          cases hc : Nat.blt j len with
          | false => rw [hc] at h; cases h
          | true =>
            rw [hc] at h
            simp only [cond_true, Option.some.injEq] at h
            subst h
            have hlt : j < len := Nat.le_of_ble_eq_true hc
            refine ⟨.pointer (some ⟨B.b, B.base + o + j * ie.size, none⟩), ?_, _, ⟨B, hB, by simp [Nat.add_assoc]⟩, rfl⟩
            simp [Instr.indexAt, Instr.sureAddr, asIntOf, run_underlying hu, hlt, sizeOf, typeInfo, hie, add_at]
      · cases h
    · cases h
noncomputable def evIndex (P : Program) (t : TypeId) (x i : Option AV) : Option Sf := match natOf i with
  | some j => match x with
    | some (.e (.lf (.s l))) => match P.underlying t with
      | some .string => match l[j]? with
        | some c => some (.v (.e (.lf (.i .u8 (c : Int)))))
        | none => none
      | _ => none
    | some (.e (.ag l)) => match P.underlying t with
      | some (.array len e) => match P.info? e with
        | some ie => bif Nat.blt j len then (match evPart P e l (j * ie.size) with
            | some r => some (.v r)
            | none => none) else none
        | none => none
      | _ => none
    | _ => none
  | none => none
theorem evIndex_ok {t : TypeId} {x i : Option AV} {v u : Value} {r : Sf} (hx : ∀ a, x = some a → a.R σ v) (hi : ∀ a, i = some a → a.R σ u) (h : evIndex P t x i = some r) : SfOk σ nm w ((Instr.index t v u).run P w) r := by
  unfold evIndex at h
  cases hj : natOf i with
  | none => rw [hj] at h; cases h
  | some j =>
    rw [hj] at h
    dsimp only at h
    obtain ⟨k, rfl⟩ := natOf_ok hi hj
    split at h
    · rename_i l
      obtain ⟨rfl, hb⟩ := hx _ rfl
      split at h
      · rename_i hu
        cases hl : l[j]? with
        | none => rw [hl] at h; cases h
        | some c =>
          rw [hl] at h
          simp only [Option.some.injEq] at h
          subst h
          have hc : c < 256 := hb c (List.mem_of_getElem? hl)
          have hlt : j < l.length := (List.getElem?_eq_some_iff.1 hl).1
          have hg : (bs l)[j]? = some (UInt8.ofNat c) := by
            have hlt' : j < (bs l).size := by rw [bs_size]; exact hlt
            have e : (bs l)[j]? = some ((bs l)[j]'hlt') := by simp [hlt']
            rw [e]
            congr 1
            have h2 : (bs l).data.toList[j]? = some (UInt8.ofNat c) := by rw [bs_list, List.getElem?_map, hl]; rfl
            have h3 : (bs l).data.toList[j]? = some ((bs l)[j]'hlt') := by
              rw [Array.getElem?_toList]
              exact Array.getElem?_eq_getElem hlt'
            exact Option.some.inj (h3.symm.trans h2)
          refine ⟨.int .u8 (c : Int), ?_, rfl⟩
          simp [Instr.index, asIntOf, run_underlying hu, hg, Nat.mod_eq_of_lt hc]
      · cases h
    · rename_i l
      obtain ⟨vs, h1, rfl⟩ := hx _ rfl
      split at h
      · rename_i len e hu
        cases hie : P.info? e with
        | none => rw [hie] at h; cases h
        | some ie =>
          rw [hie] at h
          dsimp only at h
          cases hc : Nat.blt j len with
          | false => rw [hc] at h; cases h
          | true =>
            rw [hc] at h
            simp only [cond_true] at h
            have hlt : j < len := Nat.le_of_ble_eq_true hc
            cases hp : evPart P e l (j * ie.size) with
            | none => rw [hp] at h; cases h
            | some q =>
              rw [hp] at h
              obtain rfl := Option.some.inj h
              obtain ⟨u, k1, k2⟩ := evPart_ok (P := P) (w := w) (vs := vs.toArray) (by simpa using h1) hp
              exact ⟨u, by simp [Instr.index, asIntOf, run_underlying hu, hlt, sizeOf, typeInfo, hie, k1], k2⟩
      · cases h
    · cases h
/-! ### slices of what is there -/
noncomputable def boundOf (d : Nat) : Option (Option AV) → Option Nat
  | none => some d
  | some x => natOf x
theorem bound_run {v : Value} {k : IntKind} {n y : Nat} (hv : v = .int k (n : Int)) (h : n ≤ y) (code : BoundsCode) : (Instr.sliceBound v y code).run P w = .ok n w := by
  subst hv
  simp [Instr.sliceBound, asIntOf, h]
theorem bounds_run (isS : Bool) (len cap : Nat) {lo hi : Option Operand} {ρ : Operand → Option AV} {ev : Operand → Value} (hA : HA σ ρ ev) {l h : Nat} (hl : boundOf 0 (lo.map ρ) = some l) (hh : boundOf len (hi.map ρ) = some h) (h1 : l ≤ h) (h2 : h ≤ len) (h3 : len ≤ cap) :
    (Instr.sliceBounds isS len cap (lo.map ev) (hi.map ev) none).run P w = .ok (l, h, cap) w := by
  cases hi with
  | none =>
    obtain rfl := Option.some.inj hh
    cases lo with
    | none =>
      obtain rfl := Option.some.inj hl
      simp [Instr.sliceBounds]
    | some x =>
      obtain ⟨k, hk⟩ := natOf_ok (fun a ha => hA x a ha) hl
      have hb := fun c => bound_run (P := P) (w := w) hk h1 c
      simp [Instr.sliceBounds, hb]
  | some y =>
    obtain ⟨k2, hk2⟩ := natOf_ok (fun a ha => hA y a ha) hh
    have hb2 := fun c => bound_run (P := P) (w := w) hk2 (show h ≤ cap by omega) c
    cases lo with
    | none =>
      obtain rfl := Option.some.inj hl
      simp [Instr.sliceBounds, hb2]
    | some x =>
      obtain ⟨k, hk⟩ := natOf_ok (fun a ha => hA x a ha) hl
      have hb := fun c => bound_run (P := P) (w := w) hk h1 c
      simp [Instr.sliceBounds, hb, hb2]
noncomputable def evSlice (P : Program) (t : TypeId) (x : Option AV) (lo hi : Option (Option AV)) : Option Sf := match x with
  | some (.e (.lf (.s s))) => match P.underlying t with
    | some .string => match boundOf 0 lo, boundOf s.length hi with
      | some l, some h => bif Nat.ble l h && Nat.ble h s.length then some (.v (.e (.lf (.s ((s.take h).drop l))))) else none
      | _, _ => none
    | _ => none
  | some (.e (.lf (.sl none _ _))) => match P.underlying t with
    | some (.slice e) => match boundOf 0 lo, boundOf 0 hi with
      | some 0, some 0 => match P.info? e with
        | some ie => some (.v (.e (.lf (.sl none 0 0))))
        | none => none
      | _, _ => none
    | _ => none
  | some (.e (.lf (.sl (some (n, o)) len sz))) => match P.underlying t with
    | some (.slice e) => match P.info? e with
      | some ie => match boundOf 0 lo, boundOf len hi with
        | some l, some h => bif Nat.beq ie.size sz && Nat.ble l h && Nat.ble h len then some (.v (.e (.lf (.sl (some (n, o + l * sz)) (h - l) sz)))) else none
        | _, _ => none
      | none => none
    | _ => none
  | _ => none
theorem evSlice_ok {t : TypeId} {x : Operand} {lo hi : Option Operand} {ρ : Operand → Option AV} {ev : Operand → Value} (hA : HA σ ρ ev) {r : Sf} (h : evSlice P t (ρ x) (lo.map ρ) (hi.map ρ) = some r) :
    SfOk σ nm w ((Instr.sliceAt t (ev x) (lo.map ev) (hi.map ev) none).run P w) r := by
  have hx := hA x
  unfold evSlice at h
  split at h
  · rename_i s hs
    obtain ⟨hv, hb⟩ := hx _ hs
    rw [hv]
    split at h
    · rename_i hu
      split at h
      · rename_i l q hl hq
        cases hc : (Nat.ble l q && Nat.ble q s.length) with
        | false => rw [hc] at h; cases h
        | true =>
          rw [hc] at h
          simp only [cond_true, Option.some.injEq] at h
          subst h
          simp only [Bool.and_eq_true] at hc
          have h1 := Nat.le_of_ble_eq_true hc.1
          have h2 := Nat.le_of_ble_eq_true hc.2
          have hbr := bounds_run (P := P) (w := w) false s.length s.length hA hl hq h1 h2 (Nat.le_refl _)
          refine ⟨.string (bs ((s.take q).drop l)), ?_, rfl, fun c hc => hb c (List.mem_of_mem_take (List.mem_of_mem_drop hc))⟩
          simp only [Instr.sliceAt, Instr.slice, Sem.run_bind, run_underlying hu, Result.andThen_ok, bs_size, hbr, Option.isSome_none, Bool.false_eq_true, if_false, bs_extract]
          rfl
      · cases h
    · cases h
  · rename_i len sz hs
    obtain ⟨hv, rfl⟩ := hx _ hs
    rw [hv]
    split at h
    · rename_i e hu
      split at h
      · rename_i hl hq
        cases hie : P.info? e with
        | none => rw [hie] at h; cases h
        | some ie =>
          rw [hie] at h
          simp only [Option.some.injEq] at h
          subst h
          have hbr := bounds_run (P := P) (w := w) true 0 0 hA hl hq (Nat.le_refl _) (Nat.le_refl _) (Nat.le_refl _)
          refine ⟨.slice none 0 0, ?_, rfl, rfl⟩
          simp [Instr.sliceAt, Instr.slice, run_underlying hu, hbr, sizeOf, typeInfo, hie]
      · cases h
    · cases h
  · rename_i n o len sz hs
    obtain ⟨B, hB, hv⟩ := hx _ hs
    split at h
    · rename_i e hu
      cases hie : P.info? e with
      | none => rw [hie] at h; cases h
      | some ie =>
        rw [hie] at h
        dsimp only at h
        split at h
        · rename_i l q hl hq
          cases hc : (Nat.beq ie.size sz && Nat.ble l q && Nat.ble q len) with
          | false => rw [hc] at h; cases h
          | true =>
            rw [hc] at h
            simp only [cond_true, Option.some.injEq] at h
            subst h
            simp only [Bool.and_eq_true] at hc
            have hs := Nat.eq_of_beq_eq_true hc.1.1
            have h1 := Nat.le_of_ble_eq_true hc.1.2
            have h2 := Nat.le_of_ble_eq_true hc.2
            rcases hv with ⟨c, hv, ht, hlc⟩ | ⟨rfl, u, hv⟩
            · rw [hv]
              have hbr := bounds_run (P := P) (w := w) true len c hA hl hq h1 h2 hlc
              by_cases hcl : c = l
              · have hq' : q = l := by omega
                subst hq'
                subst hcl
                refine ⟨.slice (some ⟨B.b, B.base + o, none⟩) 0 0, ?_, B, hB, Or.inr ⟨by omega, _, rfl⟩⟩
                simp [Instr.sliceAt, Instr.slice, run_underlying hu, hbr, sizeOf, typeInfo, hie]
              · refine ⟨.slice (some ⟨B.b, B.base + o + l * sz, none⟩) (q - l) (c - l), ?_, B, hB, Or.inl ⟨c - l, ?_, ?_, by omega⟩⟩
                · simp [Instr.sliceAt, Instr.slice, run_underlying hu, hbr, sizeOf, typeInfo, hie, hcl, hs, add_at]
                · simp [Nat.add_assoc]
                · show B.base + (o + l * sz) + (c - l) * sz = B.tot
                  have e1 : c = l + (c - l) := by omega
                  have e2 : c * sz = l * sz + (c - l) * sz := by
                    conv => lhs; rw [e1]
                    exact Nat.add_mul ..
                  omega
            · rw [hv]
              have hl0 : l = 0 := by omega
              have hq0 : q = 0 := by omega
              subst hl0
              subst hq0
              have hbr := bounds_run (P := P) (w := w) true 0 0 hA hl hq (Nat.le_refl _) (Nat.le_refl _) (Nat.le_refl _)
              refine ⟨.slice (some u) 0 0, ?_, B, hB, Or.inr ⟨rfl, u, rfl⟩⟩
              simp [Instr.sliceAt, Instr.slice, run_underlying hu, hbr, sizeOf, typeInfo, hie]
        · cases h
    · cases h
  · cases h
end
end Go.Proofs.YtffccgnhdpjlaaaGreatDoor.Ev
