/- Conversions; made slices; what an operation comes to that reads, or makes a block: all of them. -/
import Derived.Test.YtffccgnhdpjlaaaGreatDoorEvG
import Derived.Laws.BytesString
set_option linter.unusedVariables false
set_option linter.unusedSimpArgs false
namespace Go.Proofs.YtffccgnhdpjlaaaGreatDoor.Ev
open Go Go.RowKit
section
variable {P : Program} {σ : Sg} {nm : Nat} {w : World} {H : Tr AO}
/-! ### strings and bytes -/
noncomputable def isU8 (P : Program) (t : TypeId) : Bool := match P.underlying t with
  | some (.int .u8) => true
  | _ => false
theorem isU8_ok {t : TypeId} (h : isU8 P t = true) : P.underlying t = some (.int .u8) := by
  unfold isU8 at h
  split at h
  · assumption
  · cases h
noncomputable def bytesOf : List Lf → Option (List Nat)
  | [] => some []
  | .i .u8 (.ofNat c) :: l => bif Nat.blt c 256 then (match bytesOf l with
      | some r => some (c :: r)
      | none => none) else none
  | _ => none
theorem bytesOf_ok : ∀ {l : List Lf} {r : List Nat}, bytesOf l = some r → l = r.map (fun c : Nat => Lf.i .u8 (c : Int)) ∧ ∀ c ∈ r, c < 256
  | [], r, h => by
    obtain rfl := Option.some.inj h
    exact ⟨rfl, fun _ h => by cases h⟩
  | x :: l, r, h => by
    unfold bytesOf at h
    split at h
    · rename_i he; cases he
    · rename_i c l' he
      obtain ⟨rfl, rfl⟩ := List.cons.inj he
      cases hc : Nat.blt c 256 with
      | false => rw [hc] at h; cases h
      | true =>
        rw [hc] at h
        simp only [cond_true] at h
        have hlt : c < 256 := Nat.le_of_ble_eq_true hc
        cases hb : bytesOf l with
        | none => rw [hb] at h; cases h
        | some q =>
          rw [hb] at h
          obtain rfl := Option.some.inj h
          obtain ⟨h1, h2⟩ := bytesOf_ok hb
          refine ⟨by rw [h1]; rfl, fun c hc => ?_⟩
          rcases List.mem_cons.1 hc with rfl | hc
          · exact hlt
          · exact h2 c hc
    · cases h
theorem push_bs : ∀ (r : List Nat) (s : ByteArray), (r.map (fun c : Nat => (c : Int))).foldl (fun (s : ByteArray) n => s.push (UInt8.ofNat n.toNat)) s = s ++ bs r
  | [], s => by apply ba_ext; simp [bs]
  | c :: r, s => by
    rw [List.map_cons, List.foldl_cons, push_bs r]
    apply ba_ext
    simp [bs]
theorem push_modify (h : Array Obj) (o : Obj) (f : Obj → Obj) : (h.push o).modify h.size f = h.push (f o) := by
  apply Array.ext'
  have key : ∀ l : List Obj, (l ++ [o]).modify l.length f = l ++ [f o] := fun l => by
    induction l with
    | nil => rfl
    | cons a l ih => simpa using ih
  have := key h.toList
  rw [Array.length_toList] at this
  simpa using this
noncomputable def evConv (P : Program) (H : Tr AO) (src dst : TypeId) (x : Option AV) : Option Sf := match x with
  | some (.e (.lf (.s l))) => match P.underlying dst with
    | some .string => match P.underlying src with
      | some _ => some (.v (.e (.lf (.s l))))
      | none => none
    | some (.slice e) => match P.underlying src with
      | some _ => bif isU8 P e then some (.nw (.sl l.length 1) (.cells (l.map fun c : Nat => Lf.i .u8 (c : Int)) e false)) else none
      | none => none
    | _ => none
  | some (.e (.lf (.sl none _ _))) => match P.underlying src, P.underlying dst with
    | some (.slice e), some .string => bif isU8 P e then some (.v (.e (.lf (.s [])))) else none
    | _, _ => none
  | some (.e (.lf (.sl (some (n, o)) len sz))) => match P.underlying src, P.underlying dst with
    | some (.slice e), some .string => bif isU8 P e then (match H.get n with
        | some (.cells l _ _) => match bytesOf ((l.drop o).take len) with
          | some r => bif Nat.beq r.length len then some (.v (.e (.lf (.s r)))) else none
          | none => none
        | _ => none) else none
    | _, _ => none
  | _ => none
theorem evConv_ok {src dst : TypeId} {x : Option AV} {v : Value} {r : Sf} (hL : LiveAt σ H w) (hx : ∀ a, x = some a → a.R σ v) (h : evConv P H src dst x = some r) : SfOk σ nm w ((convert src dst v).run P w) r := by
  unfold evConv at h
  split at h
  · rename_i l
    obtain ⟨rfl, hb⟩ := hx _ rfl
    split at h
    · rename_i hd
      split at h
      · rename_i d hs
        obtain rfl := Option.some.inj h
        refine ⟨.string (bs l), ?_, rfl, hb⟩
        unfold convert
        rw [Sem.run_bind, run_underlying hs, Result.andThen_ok, Sem.run_bind, run_underlying hd, Result.andThen_ok]
        cases d <;> rfl
      · cases h
    · rename_i e hd
      split at h
      · rename_i d hs
        cases hu : isU8 P e with
        | false => rw [hu] at h; cases h
        | true =>
          rw [hu] at h
          simp only [cond_true, Option.some.injEq] at h
          subst h
          have hu8 := isU8_ok hu
          have e1 : (convert src dst (.string (bs l))).run P w = (Conv.stringToBytes e (bs l)).run P w := by
            unfold convert
            rw [Sem.run_bind, run_underlying hs, Result.andThen_ok, Sem.run_bind, run_underlying hd, Result.andThen_ok]
            have e2 : (do match ← underlying e with
              | .int .u8 => Conv.stringToBytes e (bs l)
              | .int .i32 => Conv.stringToRunes e (bs l)
              | _ => stuck "Convert: string to a slice of what?" : Sem Value).run P w = (Conv.stringToBytes e (bs l)).run P w := by
              rw [Sem.run_bind, run_underlying hu8, Result.andThen_ok]
            cases d <;> exact e2
          rw [e1]
          generalize hcap : (Question.appendCap (bs l).size 0 e).cut (w.tape w.drawn (.appendCap (bs l).size 0 e)) = cap
          have hcl : l.length ≤ cap := by
            rw [← hcap, bs_size]
            simp only [Question.cut]
            omega
          generalize hcs : ((bs l).data.map fun b => Value.int .u8 b.toNat) ++ Array.replicate (cap - (bs l).size) (Value.int .u8 0) = cs
          have hcz : cs.size = cap := by
            rw [← hcs, bs_size]
            have : (bs l).data.size = l.length := bs_size l
            simp [this]
            omega
          have hrun : (Conv.stringToBytes e (bs l)).run P w = .ok (.slice (some ⟨w.heap.size, 0, none⟩) l.length cap) { w with heap := w.heap.push (.cells cs e (cap, cap + 1)), drawn := w.drawn + 1 } := by
            unfold Conv.stringToBytes
            simp only [Sem.run_bind, run_choose, Question.forced, Bool.false_eq_true, if_false, hcap, Result.andThen_ok, hcs]
            simp only [newRow, Sem.run_bind, run_newObj, Result.andThen_ok, Sem.run_pure, markStringish, run_shape]
            have hsh : World.shape? { w with heap := w.heap.push (.cells cs e), drawn := w.drawn + 1 } w.heap.size = some (e, cap) := by
              simp [World.shape?, hcz]
            rw [hsh]
            simp only [run_freeze, Result.andThen_ok, bs_size, Sem.run_pure]
            congr 1
            unfold World.freeze
            rw [if_neg (by decide)]
            congr 1
            rw [push_modify]
            simp
          refine ⟨_, _, _, cap, hrun, rfl, ⟨rfl, rfl, rfl⟩, fun τ hs ht => ⟨⟨_, ht, Or.inl ⟨cap, rfl, by simp, hcl⟩⟩, cs, (cap, cap + 1), push_new rfl, hcz, (fun i hi hh => by have h1 : i < cap := hi; have h2 : cap ≤ i := hh.1; omega), (by simpa using hcl), (fun hh => by cases hh), fun i x hx => ?_⟩⟩
          rw [List.getElem?_map] at hx
          cases hli : l[i]? with
          | none => rw [hli] at hx; cases hx
          | some c =>
            rw [hli] at hx
            simp only [Option.map_some, Option.some.injEq] at hx
            subst hx
            have hc : c < 256 := hb c (List.mem_of_getElem? hli)
            have hlt : i < l.length := (List.getElem?_eq_some_iff.1 hli).1
            refine ⟨.int .u8 (c : Int), ?_, rfl⟩
            have hd : (bs l).data[i]? = some (UInt8.ofNat c) := by rw [← Array.getElem?_toList, bs_list, List.getElem?_map, hli]; rfl
            have hsz : (bs l).data.size = l.length := bs_size l
            rw [← hcs, Nat.zero_add, Array.getElem?_append_left (by simpa [hsz] using hlt), Array.getElem?_map, hd]
            simp [Nat.mod_eq_of_lt hc]
      · cases h
    · cases h
  · rename_i q z
    obtain ⟨rfl, rfl⟩ := hx _ rfl
    split at h
    · rename_i e hs hd
      cases hu : isU8 P e with
      | false => rw [hu] at h; cases h
      | true =>
        rw [hu] at h
        simp only [cond_true, Option.some.injEq] at h
        subst h
        have hu8 := isU8_ok hu
        refine ⟨.string (bs []), ?_, rfl, fun c hc => by cases hc⟩
        unfold convert
        rw [Sem.run_bind, run_underlying hs, Result.andThen_ok, Sem.run_bind, run_underlying hd, Result.andThen_ok]
        show (do match ← underlying e with
              | .int .u8 => Conv.bytesToString (.slice none 0 0)
              | .int .i32 => Conv.runesToString (.slice none 0 0)
              | _ => stuck "Convert: a slice of what to string?" : Sem Value).run P w = _
        rw [Sem.run_bind, run_underlying hu8, Result.andThen_ok]
        rfl
    · cases h
  · rename_i n o len sz
    obtain ⟨B, hB, hv⟩ := hx _ rfl
    split at h
    · rename_i e hs hd
      cases hu : isU8 P e with
      | false => rw [hu] at h; cases h
      | true =>
        rw [hu] at h
        simp only [cond_true] at h
        have hu8 := isU8_ok hu
        split at h
        · rename_i l tt ex hn
          cases hbo : bytesOf ((l.drop o).take len) with
          | none => rw [hbo] at h; cases h
          | some q =>
            rw [hbo] at h
            dsimp only at h
            cases hq : Nat.beq q.length len with
            | false => rw [hq] at h; cases h
            | true =>
              rw [hq] at h
              simp only [cond_true, Option.some.injEq] at h
              subst h
              have hql := Nat.eq_of_beq_eq_true hq
              obtain ⟨h1, h2⟩ := bytesOf_ok hbo
              obtain ⟨C, hC, cs, fz, k1, k2, k3, k4, k5, k6⟩ := hL n _ hn
              obtain rfl := Option.some.inj (hB.symm.trans hC)
              have conv : ∀ (a : Addr) (cap : Nat), (∀ (j c : Nat), q[j]? = some c → w.cell? (a.add j) = some (.int .u8 (c : Int))) → (convert src dst (.slice (some a) len cap)).run P w = .ok (.string (bs q)) w := fun a cap hc => by
                unfold convert
                rw [Sem.run_bind, run_underlying hs, Result.andThen_ok, Sem.run_bind, run_underlying hd, Result.andThen_ok]
                show (do match ← underlying e with
                      | .int .u8 => Conv.bytesToString (.slice (some a) len cap)
                      | .int .i32 => Conv.runesToString (.slice (some a) len cap)
                      | _ => stuck "Convert: a slice of what to string?" : Sem Value).run P w = _
                rw [Sem.run_bind, run_underlying hu8, Result.andThen_ok]
                have hld := run_loadCells_list (P := P) w a ((q.map (fun c : Nat => (c : Int))).map (Value.int .u8)) (fun j v hj => by
                  rw [List.getElem?_map, List.getElem?_map] at hj
                  cases hqj : q[j]? with
                  | none => rw [hqj] at hj; cases hj
                  | some c =>
                    rw [hqj] at hj
                    simp only [Option.map_some, Option.some.injEq] at hj
                    rw [← hj]
                    exact hc j c hqj)
                simp only [List.length_map, hql] at hld
                have := run_bytesToString (P := P) w a len cap _ hld
                rw [push_bs] at this
                show (Conv.bytesToString (.slice (some a) len cap)).run P w = _
                rw [this]
                have e0 : ByteArray.empty ++ bs q = bs q := by apply ba_ext; simp [bs]
                rw [e0]
              rcases hv with ⟨c, rfl, -⟩ | ⟨rfl, u, rfl⟩
              · refine ⟨.string (bs q), conv _ c fun j x hj => ?_, rfl, h2⟩
                have hlj : ((l.drop o).take len)[j]? = some (.i .u8 (x : Int)) := by rw [h1, List.getElem?_map, hj]; rfl
                rw [List.getElem?_take] at hlj
                split at hlj
                · rw [List.getElem?_drop] at hlj
                  obtain ⟨v, m1, m2⟩ := k6 _ _ hlj
                  obtain rfl : v = _ := m2
                  rw [add_at, cell_at k1, Nat.add_assoc]
                  exact m1
                · cases hlj
              · have hq0 : q = [] := List.eq_nil_of_length_eq_zero hql
                subst hq0
                exact ⟨.string (bs []), conv _ 0 fun j x hj => by simp at hj, rfl, h2⟩
        · cases h
    · cases h
  · cases h
end
end Go.Proofs.YtffccgnhdpjlaaaGreatDoor.Ev
